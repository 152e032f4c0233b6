/-
  No cell of these rows narrows 'for every input' (looked for: loops, veiled, ifaces, maps, wideKeys, modest, calm, conditions, laid).
  DERIVED. THE GIVEN ROWS OF THIS SEAT. 4 by the template 'for every input the law returns true; each argument reads behind the call as it read before'; 0 by the template 'total and deterministic' (their statements: YtimmmbjdaibplaaTotals.lean).
  GIVEN WITH THE SEED: the statements are not yours to turn. If you find one false, say at which input.
  Laid BY PROGRAM, IN A SANDBOX (cutbox-rows.mjs): the forced cells as the released guide's own fill.sh prints them over the translation c08b5ab6492628d5… (all of the seat's roots in one cut). By AI agents, Wed Nov 11 2026. No macro, syntax, notation, axiom, sorry.
-/
import Derived.Test.YtimmmbjdaibplaaChecked
import GoSem.Claim
import GoSem.ClaimJoined
import GoSem.ClaimMapViews
import Derived.JoinedTies
import Derived.KernelRfl
namespace Go.Proofs.Ytimmmbjdaibplaa
/- THE CELL 'sum', in the pinned program and in every row, IS THE sha256 OF THE DUMP (.gsa) THAT YtimmmbjdaibplaaProg.lean LOADS. Nothing in Lean hashes anything: it is a label: what it is worth is what the hold of that sum in a sandbox is worth. -/
noncomputable def Try.pinned : Pinned := { name := "ytimmmbjdaibplaa", sum := "c08b5ab6492628d5c97871702e53fbdbdaf7a54e2fffd36d63e53b27ed860085", checked := Try.checked }
namespace Rows
def none {H : Type} : Left H := { results := [], args := [] }

/-- 'purlieulaw16.NetTickets': WHATEVER THE INPUT: true; the input reads as it did. -/
def netTicketsSpec : ChangeSpec := { name := "netTickets", fn := fun _ => fun
  | [d] => { results := [.lit (.bool true)], args := [d] }
  | _ => none }
def netTicketsRow : OpenClaim := { program := "ytimmmbjdaibplaa", sum := "c08b5ab6492628d5c97871702e53fbdbdaf7a54e2fffd36d63e53b27ed860085", func := "purlieu/purlieulaw16.NetTickets", spec := "netTickets", apart := false }
def NetTicketsSaid : Prop := netTicketsRow.holds Try.pinned (OpenSpec.ofChange netTicketsSpec)

/-- ITS FALSE NEIGHBOUR: 'it returns false'. Refute it at one input. -/
def netTicketsWrong : ChangeSpec := { name := "netTickets", fn := fun _ => fun
  | [d] => { results := [.lit (.bool false)], args := [d] }
  | _ => none }
def NetTicketsWrongFalsely : Prop := netTicketsRow.holds Try.pinned (OpenSpec.ofChange netTicketsWrong)

/-- 'purlieulaw16.NetSums': WHATEVER THE INPUT: true; the input reads as it did. -/
def netSumsSpec : ChangeSpec := { name := "netSums", fn := fun _ => fun
  | [d1, d2, d3] => { results := [.lit (.bool true)], args := [d1, d2, d3] }
  | _ => none }
def netSumsRow : OpenClaim := { program := "ytimmmbjdaibplaa", sum := "c08b5ab6492628d5c97871702e53fbdbdaf7a54e2fffd36d63e53b27ed860085", func := "purlieu/purlieulaw16.NetSums", spec := "netSums", unfollowed := true, recurses := true, apart := false }
def NetSumsSaid : Prop := netSumsRow.holds Try.pinned (OpenSpec.ofChange netSumsSpec)

/-- ITS FALSE NEIGHBOUR: 'it returns false'. Refute it at one input. -/
def netSumsWrong : ChangeSpec := { name := "netSums", fn := fun _ => fun
  | [d1, d2, d3] => { results := [.lit (.bool false)], args := [d1, d2, d3] }
  | _ => none }
def NetSumsWrongFalsely : Prop := netSumsRow.holds Try.pinned (OpenSpec.ofChange netSumsWrong)

/-- 'purlieulaw16.NetPlays': WHATEVER THE INPUT: true; the input reads as it did. -/
def netPlaysSpec : ChangeSpec := { name := "netPlays", fn := fun _ => fun
  | [d1, d2, d3] => { results := [.lit (.bool true)], args := [d1, d2, d3] }
  | _ => none }
def netPlaysRow : OpenClaim := { program := "ytimmmbjdaibplaa", sum := "c08b5ab6492628d5c97871702e53fbdbdaf7a54e2fffd36d63e53b27ed860085", func := "purlieu/purlieulaw16.NetPlays", spec := "netPlays", unfollowed := true, recurses := true, apart := false }
def NetPlaysSaid : Prop := netPlaysRow.holds Try.pinned (OpenSpec.ofChange netPlaysSpec)

/-- ITS FALSE NEIGHBOUR: 'it returns false'. Refute it at one input. -/
def netPlaysWrong : ChangeSpec := { name := "netPlays", fn := fun _ => fun
  | [d1, d2, d3] => { results := [.lit (.bool false)], args := [d1, d2, d3] }
  | _ => none }
def NetPlaysWrongFalsely : Prop := netPlaysRow.holds Try.pinned (OpenSpec.ofChange netPlaysWrong)

/-- 'purlieulaw16.NetAlone': WHATEVER THE INPUT: true; the input reads as it did. -/
def netAloneSpec : ChangeSpec := { name := "netAlone", fn := fun _ => fun
  | [d] => { results := [.lit (.bool true)], args := [d] }
  | _ => none }
def netAloneRow : OpenClaim := { program := "ytimmmbjdaibplaa", sum := "c08b5ab6492628d5c97871702e53fbdbdaf7a54e2fffd36d63e53b27ed860085", func := "purlieu/purlieulaw16.NetAlone", spec := "netAlone", unfollowed := true, recurses := true, apart := false }
def NetAloneSaid : Prop := netAloneRow.holds Try.pinned (OpenSpec.ofChange netAloneSpec)

/-- ITS FALSE NEIGHBOUR: 'it returns false'. Refute it at one input. -/
def netAloneWrong : ChangeSpec := { name := "netAlone", fn := fun _ => fun
  | [d] => { results := [.lit (.bool false)], args := [d] }
  | _ => none }
def NetAloneWrongFalsely : Prop := netAloneRow.holds Try.pinned (OpenSpec.ofChange netAloneWrong)

/- THE SECOND FORM. 'bulk': how many values and letters a reading holds, each counted each time it is reached (what is shared counts as often as it is met; a slice's spare places count too). A statement '..UptoSaid' is the law's where the arguments, and the package variables that the reading takes, are together of bulk at most 1048576: NARROWER than '..Said'. Prove '..Said' where nothing that the law and all that it calls make is longer than what came in: it says more and counts as full. Else prove '..UptoSaid'. A law counts once. -/
mutual
def uptoBulk {H : Type} : DataW H → Nat
  | .lit (.string bytes) => bytes.length + 1
  | .lit _ => 1
  | .nil => 1
  | .ptr d => uptoBulk d + 1
  | .slice elems spare => uptoBulkAll elems + uptoBulkAll spare + 1
  | .agg parts => uptoBulkAll parts + 1
  | .iface _ d => uptoBulk d + 1
  | .map entries => uptoBulkEntries entries + 1
  | .held _ => 1
def uptoBulkAll {H : Type} : List (DataW H) → Nat
  | [] => 0
  | d :: r => uptoBulk d + uptoBulkAll r
def uptoBulkEntries {H : Type} : List (Lit × DataW H) → Nat
  | [] => 0
  | x :: r => uptoBulkEntry x + uptoBulkEntries r
def uptoBulkEntry {H : Type} : Lit × DataW H → Nat
  | (.string bytes, d) => bytes.length + uptoBulk d + 1
  | (_, d) => uptoBulk d + 1
 end
def uptoSmall : (H : Type) → List (DataW H) → Bool := fun _ ds => decide (uptoBulkAll ds ≤ 1048576)
def OpenSpec.upto (s : _root_.Go.ChangeSpec) : _root_.Go.OpenSpec := { _root_.Go.OpenSpec.ofChange s with cond := some uptoSmall }

/-- 'purlieulaw16.NetTickets', WHERE WHAT IT READS IS OF BULK AT MOST 1048576: true; the input reads as it did. -/
def netTicketsUptoRow : OpenClaim := { program := "ytimmmbjdaibplaa", sum := "c08b5ab6492628d5c97871702e53fbdbdaf7a54e2fffd36d63e53b27ed860085", func := "purlieu/purlieulaw16.NetTickets", spec := "netTickets", apart := false, narrowed := true }
def NetTicketsUptoSaid : Prop := netTicketsUptoRow.holds Try.pinned (OpenSpec.upto netTicketsSpec)

/-- 'purlieulaw16.NetSums', WHERE WHAT IT READS IS OF BULK AT MOST 1048576: true; the input reads as it did. -/
def netSumsUptoRow : OpenClaim := { program := "ytimmmbjdaibplaa", sum := "c08b5ab6492628d5c97871702e53fbdbdaf7a54e2fffd36d63e53b27ed860085", func := "purlieu/purlieulaw16.NetSums", spec := "netSums", unfollowed := true, recurses := true, apart := false, narrowed := true }
def NetSumsUptoSaid : Prop := netSumsUptoRow.holds Try.pinned (OpenSpec.upto netSumsSpec)

/-- 'purlieulaw16.NetPlays', WHERE WHAT IT READS IS OF BULK AT MOST 1048576: true; the input reads as it did. -/
def netPlaysUptoRow : OpenClaim := { program := "ytimmmbjdaibplaa", sum := "c08b5ab6492628d5c97871702e53fbdbdaf7a54e2fffd36d63e53b27ed860085", func := "purlieu/purlieulaw16.NetPlays", spec := "netPlays", unfollowed := true, recurses := true, apart := false, narrowed := true }
def NetPlaysUptoSaid : Prop := netPlaysUptoRow.holds Try.pinned (OpenSpec.upto netPlaysSpec)

/-- 'purlieulaw16.NetAlone', WHERE WHAT IT READS IS OF BULK AT MOST 1048576: true; the input reads as it did. -/
def netAloneUptoRow : OpenClaim := { program := "ytimmmbjdaibplaa", sum := "c08b5ab6492628d5c97871702e53fbdbdaf7a54e2fffd36d63e53b27ed860085", func := "purlieu/purlieulaw16.NetAlone", spec := "netAlone", unfollowed := true, recurses := true, apart := false, narrowed := true }
def NetAloneUptoSaid : Prop := netAloneUptoRow.holds Try.pinned (OpenSpec.upto netAloneSpec)

end Rows
end Go.Proofs.Ytimmmbjdaibplaa
