/-
  NARROWER THAN 'FOR EVERY INPUT', by the rows' own cells (each row's printed sentence says how): SignResolves: laid · SignOrder: laid · SignWays: laid · SignFits: laid · SignBetter: laid · SignBest: laid · SignDoubts: laid.
  DERIVED. THE GIVEN ROWS OF THIS SEAT. 7 by the template 'for every input the law returns true; each argument reads behind the call as it read before'; 0 by the template 'total and deterministic' (their statements: YtdmdfokkibijjaaDoorTotals.lean).
  GIVEN WITH THE SEED: the statements are not yours to turn. If you find one false, say at which input.
  Laid BY PROGRAM, IN A SANDBOX (cutbox-rows.mjs): the forced cells as the released guide's own fill.sh prints them over the translation 63c58bab68bbca27… (all of the seat's roots in one cut). By AI agents, Wed Nov 11 2026. No macro, syntax, notation, axiom, sorry.
-/
import Derived.Test.YtdmdfokkibijjaaDoorChecked
import GoSem.Claim
import GoSem.ClaimJoined
import GoSem.ClaimMapViews
import Derived.JoinedTies
import Derived.KernelRfl
namespace Go.Proofs.YtdmdfokkibijjaaDoor
/- THE CELL 'sum', in the pinned program and in every row, IS THE sha256 OF THE DUMP (.gsa) THAT YtdmdfokkibijjaaDoorProg.lean LOADS. Nothing in Lean hashes anything: it is a label: what it is worth is what the hold of that sum in a sandbox is worth. -/
noncomputable def Tryd.pinned : Pinned := { name := "ytdmdfokkibijjaadoor", sum := "63c58bab68bbca27d77398a7ffe3cce10ad711e4430b55c8a88aa5feaf3fb65d", checked := Tryd.checked }
namespace Rows
def none {H : Type} : Left H := { results := [], args := [] }

/- WHAT THE LISTED PACKAGE-LEVEL VARIABLES READ AS WHEN THE CALL BEGINS. Each datum BY PROGRAM (the guide's laid-datum.mjs) off the statement by which the dump's own 'gosem.cut.vars' lays the variable. In a bare row this is a premise. The card (YtdmdfokkibijjaaDoorCards.lean) ties it to the program's text. -/
def laid_unicode_White_Space {H : Type} : DataW H := .ptr (.agg [.slice [.agg [.lit (.int .u16 9), .lit (.int .u16 13), .lit (.int .u16 1)], .agg [.lit (.int .u16 32), .lit (.int .u16 133), .lit (.int .u16 101)], .agg [.lit (.int .u16 160), .lit (.int .u16 5760), .lit (.int .u16 5600)], .agg [.lit (.int .u16 8192), .lit (.int .u16 8202), .lit (.int .u16 1)], .agg [.lit (.int .u16 8232), .lit (.int .u16 8233), .lit (.int .u16 1)], .agg [.lit (.int .u16 8239), .lit (.int .u16 8287), .lit (.int .u16 48)], .agg [.lit (.int .u16 12288), .lit (.int .u16 12288), .lit (.int .u16 1)]] [], .nil, .lit (.int .i64 2)])
def laid_strings_asciiSpace {H : Type} : DataW H := .agg [.lit (.int .u8 0), .lit (.int .u8 0), .lit (.int .u8 0), .lit (.int .u8 0), .lit (.int .u8 0), .lit (.int .u8 0), .lit (.int .u8 0), .lit (.int .u8 0), .lit (.int .u8 0), .lit (.int .u8 1), .lit (.int .u8 1), .lit (.int .u8 1), .lit (.int .u8 1), .lit (.int .u8 1), .lit (.int .u8 0), .lit (.int .u8 0), .lit (.int .u8 0), .lit (.int .u8 0), .lit (.int .u8 0), .lit (.int .u8 0), .lit (.int .u8 0), .lit (.int .u8 0), .lit (.int .u8 0), .lit (.int .u8 0), .lit (.int .u8 0), .lit (.int .u8 0), .lit (.int .u8 0), .lit (.int .u8 0), .lit (.int .u8 0), .lit (.int .u8 0), .lit (.int .u8 0), .lit (.int .u8 0), .lit (.int .u8 1), .lit (.int .u8 0), .lit (.int .u8 0), .lit (.int .u8 0), .lit (.int .u8 0), .lit (.int .u8 0), .lit (.int .u8 0), .lit (.int .u8 0), .lit (.int .u8 0), .lit (.int .u8 0), .lit (.int .u8 0), .lit (.int .u8 0), .lit (.int .u8 0), .lit (.int .u8 0), .lit (.int .u8 0), .lit (.int .u8 0), .lit (.int .u8 0), .lit (.int .u8 0), .lit (.int .u8 0), .lit (.int .u8 0), .lit (.int .u8 0), .lit (.int .u8 0), .lit (.int .u8 0), .lit (.int .u8 0), .lit (.int .u8 0), .lit (.int .u8 0), .lit (.int .u8 0), .lit (.int .u8 0), .lit (.int .u8 0), .lit (.int .u8 0), .lit (.int .u8 0), .lit (.int .u8 0), .lit (.int .u8 0), .lit (.int .u8 0), .lit (.int .u8 0), .lit (.int .u8 0), .lit (.int .u8 0), .lit (.int .u8 0), .lit (.int .u8 0), .lit (.int .u8 0), .lit (.int .u8 0), .lit (.int .u8 0), .lit (.int .u8 0), .lit (.int .u8 0), .lit (.int .u8 0), .lit (.int .u8 0), .lit (.int .u8 0), .lit (.int .u8 0), .lit (.int .u8 0), .lit (.int .u8 0), .lit (.int .u8 0), .lit (.int .u8 0), .lit (.int .u8 0), .lit (.int .u8 0), .lit (.int .u8 0), .lit (.int .u8 0), .lit (.int .u8 0), .lit (.int .u8 0), .lit (.int .u8 0), .lit (.int .u8 0), .lit (.int .u8 0), .lit (.int .u8 0), .lit (.int .u8 0), .lit (.int .u8 0), .lit (.int .u8 0), .lit (.int .u8 0), .lit (.int .u8 0), .lit (.int .u8 0), .lit (.int .u8 0), .lit (.int .u8 0), .lit (.int .u8 0), .lit (.int .u8 0), .lit (.int .u8 0), .lit (.int .u8 0), .lit (.int .u8 0), .lit (.int .u8 0), .lit (.int .u8 0), .lit (.int .u8 0), .lit (.int .u8 0), .lit (.int .u8 0), .lit (.int .u8 0), .lit (.int .u8 0), .lit (.int .u8 0), .lit (.int .u8 0), .lit (.int .u8 0), .lit (.int .u8 0), .lit (.int .u8 0), .lit (.int .u8 0), .lit (.int .u8 0), .lit (.int .u8 0), .lit (.int .u8 0), .lit (.int .u8 0), .lit (.int .u8 0), .lit (.int .u8 0), .lit (.int .u8 0), .lit (.int .u8 0), .lit (.int .u8 0), .lit (.int .u8 0), .lit (.int .u8 0), .lit (.int .u8 0), .lit (.int .u8 0), .lit (.int .u8 0), .lit (.int .u8 0), .lit (.int .u8 0), .lit (.int .u8 0), .lit (.int .u8 0), .lit (.int .u8 0), .lit (.int .u8 0), .lit (.int .u8 0), .lit (.int .u8 0), .lit (.int .u8 0), .lit (.int .u8 0), .lit (.int .u8 0), .lit (.int .u8 0), .lit (.int .u8 0), .lit (.int .u8 0), .lit (.int .u8 0), .lit (.int .u8 0), .lit (.int .u8 0), .lit (.int .u8 0), .lit (.int .u8 0), .lit (.int .u8 0), .lit (.int .u8 0), .lit (.int .u8 0), .lit (.int .u8 0), .lit (.int .u8 0), .lit (.int .u8 0), .lit (.int .u8 0), .lit (.int .u8 0), .lit (.int .u8 0), .lit (.int .u8 0), .lit (.int .u8 0), .lit (.int .u8 0), .lit (.int .u8 0), .lit (.int .u8 0), .lit (.int .u8 0), .lit (.int .u8 0), .lit (.int .u8 0), .lit (.int .u8 0), .lit (.int .u8 0), .lit (.int .u8 0), .lit (.int .u8 0), .lit (.int .u8 0), .lit (.int .u8 0), .lit (.int .u8 0), .lit (.int .u8 0), .lit (.int .u8 0), .lit (.int .u8 0), .lit (.int .u8 0), .lit (.int .u8 0), .lit (.int .u8 0), .lit (.int .u8 0), .lit (.int .u8 0), .lit (.int .u8 0), .lit (.int .u8 0), .lit (.int .u8 0), .lit (.int .u8 0), .lit (.int .u8 0), .lit (.int .u8 0), .lit (.int .u8 0), .lit (.int .u8 0), .lit (.int .u8 0), .lit (.int .u8 0), .lit (.int .u8 0), .lit (.int .u8 0), .lit (.int .u8 0), .lit (.int .u8 0), .lit (.int .u8 0), .lit (.int .u8 0), .lit (.int .u8 0), .lit (.int .u8 0), .lit (.int .u8 0), .lit (.int .u8 0), .lit (.int .u8 0), .lit (.int .u8 0), .lit (.int .u8 0), .lit (.int .u8 0), .lit (.int .u8 0), .lit (.int .u8 0), .lit (.int .u8 0), .lit (.int .u8 0), .lit (.int .u8 0), .lit (.int .u8 0), .lit (.int .u8 0), .lit (.int .u8 0), .lit (.int .u8 0), .lit (.int .u8 0), .lit (.int .u8 0), .lit (.int .u8 0), .lit (.int .u8 0), .lit (.int .u8 0), .lit (.int .u8 0), .lit (.int .u8 0), .lit (.int .u8 0), .lit (.int .u8 0), .lit (.int .u8 0), .lit (.int .u8 0), .lit (.int .u8 0), .lit (.int .u8 0), .lit (.int .u8 0), .lit (.int .u8 0), .lit (.int .u8 0), .lit (.int .u8 0), .lit (.int .u8 0), .lit (.int .u8 0), .lit (.int .u8 0), .lit (.int .u8 0), .lit (.int .u8 0), .lit (.int .u8 0), .lit (.int .u8 0), .lit (.int .u8 0), .lit (.int .u8 0), .lit (.int .u8 0), .lit (.int .u8 0), .lit (.int .u8 0), .lit (.int .u8 0), .lit (.int .u8 0), .lit (.int .u8 0), .lit (.int .u8 0), .lit (.int .u8 0), .lit (.int .u8 0), .lit (.int .u8 0), .lit (.int .u8 0), .lit (.int .u8 0)]

/-- 'purlieulaw09.SignResolves': WHATEVER THE INPUT: true; the input reads as it did. -/
def signResolvesSpec : ChangeSpec := { name := "signResolves", fn := fun _ => fun
  | [d1, d2, d3] => { results := [.lit (.bool true)], args := [d1, d2, d3] }
  | _ => none }
def signResolvesRow : OpenClaim := { program := "ytdmdfokkibijjaadoor", sum := "63c58bab68bbca27d77398a7ffe3cce10ad711e4430b55c8a88aa5feaf3fb65d", func := "purlieu/purlieulaw09.SignResolves", spec := "signResolves", unfollowed := true, recurses := true, named := ["strings.asciiSpace", "unicode.White_Space"], apart := false, laid := [("unicode.White_Space", laid_unicode_White_Space), ("strings.asciiSpace", laid_strings_asciiSpace)] }
def SignResolvesSaid : Prop := signResolvesRow.holds Tryd.pinned (OpenSpec.ofChange signResolvesSpec)

/-- ITS FALSE NEIGHBOUR: 'it returns false'. Refute it at one input. -/
def signResolvesWrong : ChangeSpec := { name := "signResolves", fn := fun _ => fun
  | [d1, d2, d3] => { results := [.lit (.bool false)], args := [d1, d2, d3] }
  | _ => none }
def SignResolvesWrongFalsely : Prop := signResolvesRow.holds Tryd.pinned (OpenSpec.ofChange signResolvesWrong)

/-- 'purlieulaw09.SignOrder': WHATEVER THE INPUT: true; the input reads as it did. -/
def signOrderSpec : ChangeSpec := { name := "signOrder", fn := fun _ => fun
  | [d1, d2, d3] => { results := [.lit (.bool true)], args := [d1, d2, d3] }
  | _ => none }
def signOrderRow : OpenClaim := { program := "ytdmdfokkibijjaadoor", sum := "63c58bab68bbca27d77398a7ffe3cce10ad711e4430b55c8a88aa5feaf3fb65d", func := "purlieu/purlieulaw09.SignOrder", spec := "signOrder", unfollowed := true, recurses := true, named := ["strings.asciiSpace", "unicode.White_Space"], apart := false, laid := [("unicode.White_Space", laid_unicode_White_Space), ("strings.asciiSpace", laid_strings_asciiSpace)] }
def SignOrderSaid : Prop := signOrderRow.holds Tryd.pinned (OpenSpec.ofChange signOrderSpec)

/-- ITS FALSE NEIGHBOUR: 'it returns false'. Refute it at one input. -/
def signOrderWrong : ChangeSpec := { name := "signOrder", fn := fun _ => fun
  | [d1, d2, d3] => { results := [.lit (.bool false)], args := [d1, d2, d3] }
  | _ => none }
def SignOrderWrongFalsely : Prop := signOrderRow.holds Tryd.pinned (OpenSpec.ofChange signOrderWrong)

/-- 'purlieulaw09.SignWays': WHATEVER THE INPUT: true; the input reads as it did. -/
def signWaysSpec : ChangeSpec := { name := "signWays", fn := fun _ => fun
  | [d1, d2] => { results := [.lit (.bool true)], args := [d1, d2] }
  | _ => none }
def signWaysRow : OpenClaim := { program := "ytdmdfokkibijjaadoor", sum := "63c58bab68bbca27d77398a7ffe3cce10ad711e4430b55c8a88aa5feaf3fb65d", func := "purlieu/purlieulaw09.SignWays", spec := "signWays", unfollowed := true, recurses := true, named := ["strings.asciiSpace", "unicode.White_Space"], apart := false, laid := [("unicode.White_Space", laid_unicode_White_Space), ("strings.asciiSpace", laid_strings_asciiSpace)] }
def SignWaysSaid : Prop := signWaysRow.holds Tryd.pinned (OpenSpec.ofChange signWaysSpec)

/-- ITS FALSE NEIGHBOUR: 'it returns false'. Refute it at one input. -/
def signWaysWrong : ChangeSpec := { name := "signWays", fn := fun _ => fun
  | [d1, d2] => { results := [.lit (.bool false)], args := [d1, d2] }
  | _ => none }
def SignWaysWrongFalsely : Prop := signWaysRow.holds Tryd.pinned (OpenSpec.ofChange signWaysWrong)

/-- 'purlieulaw09.SignFits': WHATEVER THE INPUT: true; the input reads as it did. -/
def signFitsSpec : ChangeSpec := { name := "signFits", fn := fun _ => fun
  | [d1, d2] => { results := [.lit (.bool true)], args := [d1, d2] }
  | _ => none }
def signFitsRow : OpenClaim := { program := "ytdmdfokkibijjaadoor", sum := "63c58bab68bbca27d77398a7ffe3cce10ad711e4430b55c8a88aa5feaf3fb65d", func := "purlieu/purlieulaw09.SignFits", spec := "signFits", unfollowed := true, recurses := true, named := ["strings.asciiSpace", "unicode.White_Space"], apart := false, laid := [("unicode.White_Space", laid_unicode_White_Space), ("strings.asciiSpace", laid_strings_asciiSpace)] }
def SignFitsSaid : Prop := signFitsRow.holds Tryd.pinned (OpenSpec.ofChange signFitsSpec)

/-- ITS FALSE NEIGHBOUR: 'it returns false'. Refute it at one input. -/
def signFitsWrong : ChangeSpec := { name := "signFits", fn := fun _ => fun
  | [d1, d2] => { results := [.lit (.bool false)], args := [d1, d2] }
  | _ => none }
def SignFitsWrongFalsely : Prop := signFitsRow.holds Tryd.pinned (OpenSpec.ofChange signFitsWrong)

/-- 'purlieulaw09.SignBetter': WHATEVER THE INPUT: true; the input reads as it did. -/
def signBetterSpec : ChangeSpec := { name := "signBetter", fn := fun _ => fun
  | [d1, d2, d3] => { results := [.lit (.bool true)], args := [d1, d2, d3] }
  | _ => none }
def signBetterRow : OpenClaim := { program := "ytdmdfokkibijjaadoor", sum := "63c58bab68bbca27d77398a7ffe3cce10ad711e4430b55c8a88aa5feaf3fb65d", func := "purlieu/purlieulaw09.SignBetter", spec := "signBetter", unfollowed := true, recurses := true, named := ["strings.asciiSpace", "unicode.White_Space"], apart := false, laid := [("unicode.White_Space", laid_unicode_White_Space), ("strings.asciiSpace", laid_strings_asciiSpace)] }
def SignBetterSaid : Prop := signBetterRow.holds Tryd.pinned (OpenSpec.ofChange signBetterSpec)

/-- ITS FALSE NEIGHBOUR: 'it returns false'. Refute it at one input. -/
def signBetterWrong : ChangeSpec := { name := "signBetter", fn := fun _ => fun
  | [d1, d2, d3] => { results := [.lit (.bool false)], args := [d1, d2, d3] }
  | _ => none }
def SignBetterWrongFalsely : Prop := signBetterRow.holds Tryd.pinned (OpenSpec.ofChange signBetterWrong)

/-- 'purlieulaw09.SignBest': WHATEVER THE INPUT: true; the input reads as it did. -/
def signBestSpec : ChangeSpec := { name := "signBest", fn := fun _ => fun
  | [d1, d2, d3] => { results := [.lit (.bool true)], args := [d1, d2, d3] }
  | _ => none }
def signBestRow : OpenClaim := { program := "ytdmdfokkibijjaadoor", sum := "63c58bab68bbca27d77398a7ffe3cce10ad711e4430b55c8a88aa5feaf3fb65d", func := "purlieu/purlieulaw09.SignBest", spec := "signBest", unfollowed := true, recurses := true, named := ["strings.asciiSpace", "unicode.White_Space"], apart := false, laid := [("unicode.White_Space", laid_unicode_White_Space), ("strings.asciiSpace", laid_strings_asciiSpace)] }
def SignBestSaid : Prop := signBestRow.holds Tryd.pinned (OpenSpec.ofChange signBestSpec)

/-- ITS FALSE NEIGHBOUR: 'it returns false'. Refute it at one input. -/
def signBestWrong : ChangeSpec := { name := "signBest", fn := fun _ => fun
  | [d1, d2, d3] => { results := [.lit (.bool false)], args := [d1, d2, d3] }
  | _ => none }
def SignBestWrongFalsely : Prop := signBestRow.holds Tryd.pinned (OpenSpec.ofChange signBestWrong)

/-- 'purlieulaw09.SignDoubts': WHATEVER THE INPUT: true; the input reads as it did. -/
def signDoubtsSpec : ChangeSpec := { name := "signDoubts", fn := fun _ => fun
  | [d1, d2] => { results := [.lit (.bool true)], args := [d1, d2] }
  | _ => none }
def signDoubtsRow : OpenClaim := { program := "ytdmdfokkibijjaadoor", sum := "63c58bab68bbca27d77398a7ffe3cce10ad711e4430b55c8a88aa5feaf3fb65d", func := "purlieu/purlieulaw09.SignDoubts", spec := "signDoubts", unfollowed := true, recurses := true, named := ["strings.asciiSpace", "unicode.White_Space"], apart := false, laid := [("unicode.White_Space", laid_unicode_White_Space), ("strings.asciiSpace", laid_strings_asciiSpace)] }
def SignDoubtsSaid : Prop := signDoubtsRow.holds Tryd.pinned (OpenSpec.ofChange signDoubtsSpec)

/-- ITS FALSE NEIGHBOUR: 'it returns false'. Refute it at one input. -/
def signDoubtsWrong : ChangeSpec := { name := "signDoubts", fn := fun _ => fun
  | [d1, d2] => { results := [.lit (.bool false)], args := [d1, d2] }
  | _ => none }
def SignDoubtsWrongFalsely : Prop := signDoubtsRow.holds Tryd.pinned (OpenSpec.ofChange signDoubtsWrong)

/- THE SECOND FORM. 'bulk': how many values and letters a reading holds, each counted each time it is reached (what is shared counts as often as it is met; a slice's spare places count too). A statement '..UptoSaid' is the law's where the arguments, and the package variables that the reading takes, are together of bulk at most 1048576: NARROWER than '..Said'. Prove '..Said' where nothing that the law and all that it calls make is longer than what came in: it says more and counts as full. Else prove '..UptoSaid'. A law counts once. -/
mutual
def uptoBulk {H : Type} : DataW H → Nat
  | .lit (.string bytes) => bytes.length + 1
  | .lit _ => 1
  | .nil => 1
  | .ptr d => uptoBulk d + 1
  | .slice elems spare => uptoBulkAll elems + uptoBulkAll spare + 1
  | .agg parts => uptoBulkAll parts + 1
  | .iface _ d => uptoBulk d + 1
  | .map entries => uptoBulkEntries entries + 1
  | .held _ => 1
def uptoBulkAll {H : Type} : List (DataW H) → Nat
  | [] => 0
  | d :: r => uptoBulk d + uptoBulkAll r
def uptoBulkEntries {H : Type} : List (Lit × DataW H) → Nat
  | [] => 0
  | x :: r => uptoBulkEntry x + uptoBulkEntries r
def uptoBulkEntry {H : Type} : Lit × DataW H → Nat
  | (.string bytes, d) => bytes.length + uptoBulk d + 1
  | (_, d) => uptoBulk d + 1
 end
def uptoSmall : (H : Type) → List (DataW H) → Bool := fun _ ds => decide (uptoBulkAll ds ≤ 1048576)
def OpenSpec.upto (s : _root_.Go.ChangeSpec) : _root_.Go.OpenSpec := { _root_.Go.OpenSpec.ofChange s with cond := some uptoSmall }

/-- 'purlieulaw09.SignResolves', WHERE WHAT IT READS IS OF BULK AT MOST 1048576: true; the input reads as it did. -/
def signResolvesUptoRow : OpenClaim := { program := "ytdmdfokkibijjaadoor", sum := "63c58bab68bbca27d77398a7ffe3cce10ad711e4430b55c8a88aa5feaf3fb65d", func := "purlieu/purlieulaw09.SignResolves", spec := "signResolves", unfollowed := true, recurses := true, named := ["strings.asciiSpace", "unicode.White_Space"], apart := false, laid := [("unicode.White_Space", laid_unicode_White_Space), ("strings.asciiSpace", laid_strings_asciiSpace)], narrowed := true }
def SignResolvesUptoSaid : Prop := signResolvesUptoRow.holds Tryd.pinned (OpenSpec.upto signResolvesSpec)

/-- 'purlieulaw09.SignOrder', WHERE WHAT IT READS IS OF BULK AT MOST 1048576: true; the input reads as it did. -/
def signOrderUptoRow : OpenClaim := { program := "ytdmdfokkibijjaadoor", sum := "63c58bab68bbca27d77398a7ffe3cce10ad711e4430b55c8a88aa5feaf3fb65d", func := "purlieu/purlieulaw09.SignOrder", spec := "signOrder", unfollowed := true, recurses := true, named := ["strings.asciiSpace", "unicode.White_Space"], apart := false, laid := [("unicode.White_Space", laid_unicode_White_Space), ("strings.asciiSpace", laid_strings_asciiSpace)], narrowed := true }
def SignOrderUptoSaid : Prop := signOrderUptoRow.holds Tryd.pinned (OpenSpec.upto signOrderSpec)

/-- 'purlieulaw09.SignWays', WHERE WHAT IT READS IS OF BULK AT MOST 1048576: true; the input reads as it did. -/
def signWaysUptoRow : OpenClaim := { program := "ytdmdfokkibijjaadoor", sum := "63c58bab68bbca27d77398a7ffe3cce10ad711e4430b55c8a88aa5feaf3fb65d", func := "purlieu/purlieulaw09.SignWays", spec := "signWays", unfollowed := true, recurses := true, named := ["strings.asciiSpace", "unicode.White_Space"], apart := false, laid := [("unicode.White_Space", laid_unicode_White_Space), ("strings.asciiSpace", laid_strings_asciiSpace)], narrowed := true }
def SignWaysUptoSaid : Prop := signWaysUptoRow.holds Tryd.pinned (OpenSpec.upto signWaysSpec)

/-- 'purlieulaw09.SignFits', WHERE WHAT IT READS IS OF BULK AT MOST 1048576: true; the input reads as it did. -/
def signFitsUptoRow : OpenClaim := { program := "ytdmdfokkibijjaadoor", sum := "63c58bab68bbca27d77398a7ffe3cce10ad711e4430b55c8a88aa5feaf3fb65d", func := "purlieu/purlieulaw09.SignFits", spec := "signFits", unfollowed := true, recurses := true, named := ["strings.asciiSpace", "unicode.White_Space"], apart := false, laid := [("unicode.White_Space", laid_unicode_White_Space), ("strings.asciiSpace", laid_strings_asciiSpace)], narrowed := true }
def SignFitsUptoSaid : Prop := signFitsUptoRow.holds Tryd.pinned (OpenSpec.upto signFitsSpec)

/-- 'purlieulaw09.SignBetter', WHERE WHAT IT READS IS OF BULK AT MOST 1048576: true; the input reads as it did. -/
def signBetterUptoRow : OpenClaim := { program := "ytdmdfokkibijjaadoor", sum := "63c58bab68bbca27d77398a7ffe3cce10ad711e4430b55c8a88aa5feaf3fb65d", func := "purlieu/purlieulaw09.SignBetter", spec := "signBetter", unfollowed := true, recurses := true, named := ["strings.asciiSpace", "unicode.White_Space"], apart := false, laid := [("unicode.White_Space", laid_unicode_White_Space), ("strings.asciiSpace", laid_strings_asciiSpace)], narrowed := true }
def SignBetterUptoSaid : Prop := signBetterUptoRow.holds Tryd.pinned (OpenSpec.upto signBetterSpec)

/-- 'purlieulaw09.SignBest', WHERE WHAT IT READS IS OF BULK AT MOST 1048576: true; the input reads as it did. -/
def signBestUptoRow : OpenClaim := { program := "ytdmdfokkibijjaadoor", sum := "63c58bab68bbca27d77398a7ffe3cce10ad711e4430b55c8a88aa5feaf3fb65d", func := "purlieu/purlieulaw09.SignBest", spec := "signBest", unfollowed := true, recurses := true, named := ["strings.asciiSpace", "unicode.White_Space"], apart := false, laid := [("unicode.White_Space", laid_unicode_White_Space), ("strings.asciiSpace", laid_strings_asciiSpace)], narrowed := true }
def SignBestUptoSaid : Prop := signBestUptoRow.holds Tryd.pinned (OpenSpec.upto signBestSpec)

/-- 'purlieulaw09.SignDoubts', WHERE WHAT IT READS IS OF BULK AT MOST 1048576: true; the input reads as it did. -/
def signDoubtsUptoRow : OpenClaim := { program := "ytdmdfokkibijjaadoor", sum := "63c58bab68bbca27d77398a7ffe3cce10ad711e4430b55c8a88aa5feaf3fb65d", func := "purlieu/purlieulaw09.SignDoubts", spec := "signDoubts", unfollowed := true, recurses := true, named := ["strings.asciiSpace", "unicode.White_Space"], apart := false, laid := [("unicode.White_Space", laid_unicode_White_Space), ("strings.asciiSpace", laid_strings_asciiSpace)], narrowed := true }
def SignDoubtsUptoSaid : Prop := signDoubtsUptoRow.holds Tryd.pinned (OpenSpec.upto signDoubtsSpec)

end Rows
end Go.Proofs.YtdmdfokkibijjaaDoor
