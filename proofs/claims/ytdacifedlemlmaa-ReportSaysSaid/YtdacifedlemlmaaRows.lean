/-
  NARROWER THAN 'FOR EVERY INPUT', by the rows' own cells (each row's printed sentence says how): ReportFinds: loops · LangParts: loops · LangStars: loops · ReportSays: loops · ReportBack: loops · ReportTurned: loops · LangFirst: loops.
  DERIVED. THE GIVEN ROWS OF THIS SEAT. 9 by the template 'for every input the law returns true; each argument reads behind the call as it read before'; 0 by the template 'total and deterministic' (their statements: YtdacifedlemlmaaTotals.lean).
  GIVEN WITH THE SEED: the statements are not yours to turn. If you find one false, say at which input.
  Laid BY PROGRAM, IN A SANDBOX (cutbox-rows.mjs): the forced cells as the released guide's own fill.sh prints them over the translation 76a806965c6d9720… (all of the seat's roots in one cut). By AI agents, Wed Nov 11 2026. No macro, syntax, notation, axiom, sorry.
-/
import Derived.Test.YtdacifedlemlmaaChecked
import GoSem.Claim
import GoSem.ClaimJoined
import GoSem.ClaimMapViews
import Derived.JoinedTies
import Derived.KernelRfl
namespace Go.Proofs.Ytdacifedlemlmaa
/- THE CELL 'sum', in the pinned program and in every row, IS THE sha256 OF THE DUMP (.gsa) THAT YtdacifedlemlmaaProg.lean LOADS. Nothing in Lean hashes anything: it is a label: what it is worth is what the hold of that sum in a sandbox is worth. -/
noncomputable def Try.pinned : Pinned := { name := "ytdacifedlemlmaa", sum := "76a806965c6d9720d80c5ed2dd7d45e318eac36fd6b3b30c3f1b4a663b7523da", checked := Try.checked }
namespace Rows
def none {H : Type} : Left H := { results := [], args := [] }

/-- 'catchpolelaw25.ReportFinds': WHATEVER THE INPUT: true; the input reads as it did. -/
def reportFindsSpec : ChangeSpec := { name := "reportFinds", fn := fun _ => fun
  | [d1, d2, d3] => { results := [.lit (.bool true)], args := [d1, d2, d3] }
  | _ => none }
def reportFindsRow : OpenClaim := { program := "ytdacifedlemlmaa", sum := "76a806965c6d9720d80c5ed2dd7d45e318eac36fd6b3b30c3f1b4a663b7523da", func := "catchpole/catchpolelaw25.ReportFinds", spec := "reportFinds", inPlace := ["math.Float64frombits", "math.Float64bits"], unfollowed := true, recurses := true, loops := true, apart := false }
def ReportFindsSaid : Prop := reportFindsRow.holds Try.pinned (OpenSpec.ofChange reportFindsSpec)

/-- ITS FALSE NEIGHBOUR: 'it returns false'. Refute it at one input. -/
def reportFindsWrong : ChangeSpec := { name := "reportFinds", fn := fun _ => fun
  | [d1, d2, d3] => { results := [.lit (.bool false)], args := [d1, d2, d3] }
  | _ => none }
def ReportFindsWrongFalsely : Prop := reportFindsRow.holds Try.pinned (OpenSpec.ofChange reportFindsWrong)

/-- 'catchpolelaw9.LangParts': WHATEVER THE INPUT: true; the input reads as it did. -/
def langPartsSpec : ChangeSpec := { name := "langParts", fn := fun _ => fun
  | [d1, d2, d3] => { results := [.lit (.bool true)], args := [d1, d2, d3] }
  | _ => none }
def langPartsRow : OpenClaim := { program := "ytdacifedlemlmaa", sum := "76a806965c6d9720d80c5ed2dd7d45e318eac36fd6b3b30c3f1b4a663b7523da", func := "catchpole/catchpolelaw9.LangParts", spec := "langParts", unfollowed := true, recurses := true, loops := true, apart := false }
def LangPartsSaid : Prop := langPartsRow.holds Try.pinned (OpenSpec.ofChange langPartsSpec)

/-- ITS FALSE NEIGHBOUR: 'it returns false'. Refute it at one input. -/
def langPartsWrong : ChangeSpec := { name := "langParts", fn := fun _ => fun
  | [d1, d2, d3] => { results := [.lit (.bool false)], args := [d1, d2, d3] }
  | _ => none }
def LangPartsWrongFalsely : Prop := langPartsRow.holds Try.pinned (OpenSpec.ofChange langPartsWrong)

/-- 'catchpolelaw9.LangStars': WHATEVER THE INPUT: true; the input reads as it did. -/
def langStarsSpec : ChangeSpec := { name := "langStars", fn := fun _ => fun
  | [d1, d2] => { results := [.lit (.bool true)], args := [d1, d2] }
  | _ => none }
def langStarsRow : OpenClaim := { program := "ytdacifedlemlmaa", sum := "76a806965c6d9720d80c5ed2dd7d45e318eac36fd6b3b30c3f1b4a663b7523da", func := "catchpole/catchpolelaw9.LangStars", spec := "langStars", unfollowed := true, recurses := true, loops := true, apart := false }
def LangStarsSaid : Prop := langStarsRow.holds Try.pinned (OpenSpec.ofChange langStarsSpec)

/-- ITS FALSE NEIGHBOUR: 'it returns false'. Refute it at one input. -/
def langStarsWrong : ChangeSpec := { name := "langStars", fn := fun _ => fun
  | [d1, d2] => { results := [.lit (.bool false)], args := [d1, d2] }
  | _ => none }
def LangStarsWrongFalsely : Prop := langStarsRow.holds Try.pinned (OpenSpec.ofChange langStarsWrong)

/-- 'catchpolelaw25.ReportKnown': WHATEVER THE INPUT: true; the input reads as it did. -/
def reportKnownSpec : ChangeSpec := { name := "reportKnown", fn := fun _ => fun
  | [] => { results := [.lit (.bool true)], args := [] }
  | _ => none }
def reportKnownRow : OpenClaim := { program := "ytdacifedlemlmaa", sum := "76a806965c6d9720d80c5ed2dd7d45e318eac36fd6b3b30c3f1b4a663b7523da", func := "catchpole/catchpolelaw25.ReportKnown", spec := "reportKnown", inPlace := ["math.Float64frombits", "math.Float64bits"], unfollowed := true, recurses := true, apart := false }
def ReportKnownSaid : Prop := reportKnownRow.holds Try.pinned (OpenSpec.ofChange reportKnownSpec)

/-- ITS FALSE NEIGHBOUR: 'it returns false'. Refute it at one input. -/
def reportKnownWrong : ChangeSpec := { name := "reportKnown", fn := fun _ => fun
  | [] => { results := [.lit (.bool false)], args := [] }
  | _ => none }
def ReportKnownWrongFalsely : Prop := reportKnownRow.holds Try.pinned (OpenSpec.ofChange reportKnownWrong)

/-- 'catchpolelaw25.ReportSays': WHATEVER THE INPUT: true; the input reads as it did. -/
def reportSaysSpec : ChangeSpec := { name := "reportSays", fn := fun _ => fun
  | [d1, d2] => { results := [.lit (.bool true)], args := [d1, d2] }
  | _ => none }
def reportSaysRow : OpenClaim := { program := "ytdacifedlemlmaa", sum := "76a806965c6d9720d80c5ed2dd7d45e318eac36fd6b3b30c3f1b4a663b7523da", func := "catchpole/catchpolelaw25.ReportSays", spec := "reportSays", inPlace := ["math.Float64frombits", "math.Float64bits"], unfollowed := true, recurses := true, loops := true, apart := false }
def ReportSaysSaid : Prop := reportSaysRow.holds Try.pinned (OpenSpec.ofChange reportSaysSpec)

/-- ITS FALSE NEIGHBOUR: 'it returns false'. Refute it at one input. -/
def reportSaysWrong : ChangeSpec := { name := "reportSays", fn := fun _ => fun
  | [d1, d2] => { results := [.lit (.bool false)], args := [d1, d2] }
  | _ => none }
def ReportSaysWrongFalsely : Prop := reportSaysRow.holds Try.pinned (OpenSpec.ofChange reportSaysWrong)

/-- 'catchpolelaw25.ReportBack': WHATEVER THE INPUT: true; the input reads as it did. -/
def reportBackSpec : ChangeSpec := { name := "reportBack", fn := fun _ => fun
  | [d1, d2, d3] => { results := [.lit (.bool true)], args := [d1, d2, d3] }
  | _ => none }
def reportBackRow : OpenClaim := { program := "ytdacifedlemlmaa", sum := "76a806965c6d9720d80c5ed2dd7d45e318eac36fd6b3b30c3f1b4a663b7523da", func := "catchpole/catchpolelaw25.ReportBack", spec := "reportBack", inPlace := ["math.Float64frombits", "math.Float64bits"], unfollowed := true, recurses := true, loops := true, apart := false }
def ReportBackSaid : Prop := reportBackRow.holds Try.pinned (OpenSpec.ofChange reportBackSpec)

/-- ITS FALSE NEIGHBOUR: 'it returns false'. Refute it at one input. -/
def reportBackWrong : ChangeSpec := { name := "reportBack", fn := fun _ => fun
  | [d1, d2, d3] => { results := [.lit (.bool false)], args := [d1, d2, d3] }
  | _ => none }
def ReportBackWrongFalsely : Prop := reportBackRow.holds Try.pinned (OpenSpec.ofChange reportBackWrong)

/-- 'catchpolelaw25.ReportTurned': WHATEVER THE INPUT: true; the input reads as it did. -/
def reportTurnedSpec : ChangeSpec := { name := "reportTurned", fn := fun _ => fun
  | [d1, d2, d3] => { results := [.lit (.bool true)], args := [d1, d2, d3] }
  | _ => none }
def reportTurnedRow : OpenClaim := { program := "ytdacifedlemlmaa", sum := "76a806965c6d9720d80c5ed2dd7d45e318eac36fd6b3b30c3f1b4a663b7523da", func := "catchpole/catchpolelaw25.ReportTurned", spec := "reportTurned", inPlace := ["math.Float64frombits", "math.Float64bits"], unfollowed := true, recurses := true, loops := true, apart := false }
def ReportTurnedSaid : Prop := reportTurnedRow.holds Try.pinned (OpenSpec.ofChange reportTurnedSpec)

/-- ITS FALSE NEIGHBOUR: 'it returns false'. Refute it at one input. -/
def reportTurnedWrong : ChangeSpec := { name := "reportTurned", fn := fun _ => fun
  | [d1, d2, d3] => { results := [.lit (.bool false)], args := [d1, d2, d3] }
  | _ => none }
def ReportTurnedWrongFalsely : Prop := reportTurnedRow.holds Try.pinned (OpenSpec.ofChange reportTurnedWrong)

/-- 'catchpolelaw9.LangKnown': WHATEVER THE INPUT: true; the input reads as it did. -/
def langKnownSpec : ChangeSpec := { name := "langKnown", fn := fun _ => fun
  | [] => { results := [.lit (.bool true)], args := [] }
  | _ => none }
def langKnownRow : OpenClaim := { program := "ytdacifedlemlmaa", sum := "76a806965c6d9720d80c5ed2dd7d45e318eac36fd6b3b30c3f1b4a663b7523da", func := "catchpole/catchpolelaw9.LangKnown", spec := "langKnown", unfollowed := true, recurses := true, apart := false }
def LangKnownSaid : Prop := langKnownRow.holds Try.pinned (OpenSpec.ofChange langKnownSpec)

/-- ITS FALSE NEIGHBOUR: 'it returns false'. Refute it at one input. -/
def langKnownWrong : ChangeSpec := { name := "langKnown", fn := fun _ => fun
  | [] => { results := [.lit (.bool false)], args := [] }
  | _ => none }
def LangKnownWrongFalsely : Prop := langKnownRow.holds Try.pinned (OpenSpec.ofChange langKnownWrong)

/-- 'catchpolelaw9.LangFirst': WHATEVER THE INPUT: true; the input reads as it did. -/
def langFirstSpec : ChangeSpec := { name := "langFirst", fn := fun _ => fun
  | [d1, d2] => { results := [.lit (.bool true)], args := [d1, d2] }
  | _ => none }
def langFirstRow : OpenClaim := { program := "ytdacifedlemlmaa", sum := "76a806965c6d9720d80c5ed2dd7d45e318eac36fd6b3b30c3f1b4a663b7523da", func := "catchpole/catchpolelaw9.LangFirst", spec := "langFirst", unfollowed := true, recurses := true, loops := true, apart := false }
def LangFirstSaid : Prop := langFirstRow.holds Try.pinned (OpenSpec.ofChange langFirstSpec)

/-- ITS FALSE NEIGHBOUR: 'it returns false'. Refute it at one input. -/
def langFirstWrong : ChangeSpec := { name := "langFirst", fn := fun _ => fun
  | [d1, d2] => { results := [.lit (.bool false)], args := [d1, d2] }
  | _ => none }
def LangFirstWrongFalsely : Prop := langFirstRow.holds Try.pinned (OpenSpec.ofChange langFirstWrong)

/- THE SECOND FORM. 'bulk': how many values and letters a reading holds, each counted each time it is reached (what is shared counts as often as it is met; a slice's spare places count too). A statement '..UptoSaid' is the law's where the arguments, and the package variables that the reading takes, are together of bulk at most 1048576: NARROWER than '..Said'. Prove '..Said' where nothing that the law and all that it calls make is longer than what came in: it says more and counts as full. Else prove '..UptoSaid'. A law counts once. -/
mutual
def uptoBulk {H : Type} : DataW H → Nat
  | .lit (.string bytes) => bytes.length + 1
  | .lit _ => 1
  | .nil => 1
  | .ptr d => uptoBulk d + 1
  | .slice elems spare => uptoBulkAll elems + uptoBulkAll spare + 1
  | .agg parts => uptoBulkAll parts + 1
  | .iface _ d => uptoBulk d + 1
  | .map entries => uptoBulkEntries entries + 1
  | .held _ => 1
def uptoBulkAll {H : Type} : List (DataW H) → Nat
  | [] => 0
  | d :: r => uptoBulk d + uptoBulkAll r
def uptoBulkEntries {H : Type} : List (Lit × DataW H) → Nat
  | [] => 0
  | x :: r => uptoBulkEntry x + uptoBulkEntries r
def uptoBulkEntry {H : Type} : Lit × DataW H → Nat
  | (.string bytes, d) => bytes.length + uptoBulk d + 1
  | (_, d) => uptoBulk d + 1
 end
def uptoSmall : (H : Type) → List (DataW H) → Bool := fun _ ds => decide (uptoBulkAll ds ≤ 1048576)
def OpenSpec.upto (s : _root_.Go.ChangeSpec) : _root_.Go.OpenSpec := { _root_.Go.OpenSpec.ofChange s with cond := some uptoSmall }

/-- 'catchpolelaw25.ReportFinds', WHERE WHAT IT READS IS OF BULK AT MOST 1048576: true; the input reads as it did. -/
def reportFindsUptoRow : OpenClaim := { program := "ytdacifedlemlmaa", sum := "76a806965c6d9720d80c5ed2dd7d45e318eac36fd6b3b30c3f1b4a663b7523da", func := "catchpole/catchpolelaw25.ReportFinds", spec := "reportFinds", inPlace := ["math.Float64frombits", "math.Float64bits"], unfollowed := true, recurses := true, loops := true, apart := false, narrowed := true }
def ReportFindsUptoSaid : Prop := reportFindsUptoRow.holds Try.pinned (OpenSpec.upto reportFindsSpec)

/-- 'catchpolelaw9.LangParts', WHERE WHAT IT READS IS OF BULK AT MOST 1048576: true; the input reads as it did. -/
def langPartsUptoRow : OpenClaim := { program := "ytdacifedlemlmaa", sum := "76a806965c6d9720d80c5ed2dd7d45e318eac36fd6b3b30c3f1b4a663b7523da", func := "catchpole/catchpolelaw9.LangParts", spec := "langParts", unfollowed := true, recurses := true, loops := true, apart := false, narrowed := true }
def LangPartsUptoSaid : Prop := langPartsUptoRow.holds Try.pinned (OpenSpec.upto langPartsSpec)

/-- 'catchpolelaw9.LangStars', WHERE WHAT IT READS IS OF BULK AT MOST 1048576: true; the input reads as it did. -/
def langStarsUptoRow : OpenClaim := { program := "ytdacifedlemlmaa", sum := "76a806965c6d9720d80c5ed2dd7d45e318eac36fd6b3b30c3f1b4a663b7523da", func := "catchpole/catchpolelaw9.LangStars", spec := "langStars", unfollowed := true, recurses := true, loops := true, apart := false, narrowed := true }
def LangStarsUptoSaid : Prop := langStarsUptoRow.holds Try.pinned (OpenSpec.upto langStarsSpec)

/-- 'catchpolelaw25.ReportKnown', WHERE WHAT IT READS IS OF BULK AT MOST 1048576: true; the input reads as it did. -/
def reportKnownUptoRow : OpenClaim := { program := "ytdacifedlemlmaa", sum := "76a806965c6d9720d80c5ed2dd7d45e318eac36fd6b3b30c3f1b4a663b7523da", func := "catchpole/catchpolelaw25.ReportKnown", spec := "reportKnown", inPlace := ["math.Float64frombits", "math.Float64bits"], unfollowed := true, recurses := true, apart := false, narrowed := true }
def ReportKnownUptoSaid : Prop := reportKnownUptoRow.holds Try.pinned (OpenSpec.upto reportKnownSpec)

/-- 'catchpolelaw25.ReportSays', WHERE WHAT IT READS IS OF BULK AT MOST 1048576: true; the input reads as it did. -/
def reportSaysUptoRow : OpenClaim := { program := "ytdacifedlemlmaa", sum := "76a806965c6d9720d80c5ed2dd7d45e318eac36fd6b3b30c3f1b4a663b7523da", func := "catchpole/catchpolelaw25.ReportSays", spec := "reportSays", inPlace := ["math.Float64frombits", "math.Float64bits"], unfollowed := true, recurses := true, loops := true, apart := false, narrowed := true }
def ReportSaysUptoSaid : Prop := reportSaysUptoRow.holds Try.pinned (OpenSpec.upto reportSaysSpec)

/-- 'catchpolelaw25.ReportBack', WHERE WHAT IT READS IS OF BULK AT MOST 1048576: true; the input reads as it did. -/
def reportBackUptoRow : OpenClaim := { program := "ytdacifedlemlmaa", sum := "76a806965c6d9720d80c5ed2dd7d45e318eac36fd6b3b30c3f1b4a663b7523da", func := "catchpole/catchpolelaw25.ReportBack", spec := "reportBack", inPlace := ["math.Float64frombits", "math.Float64bits"], unfollowed := true, recurses := true, loops := true, apart := false, narrowed := true }
def ReportBackUptoSaid : Prop := reportBackUptoRow.holds Try.pinned (OpenSpec.upto reportBackSpec)

/-- 'catchpolelaw25.ReportTurned', WHERE WHAT IT READS IS OF BULK AT MOST 1048576: true; the input reads as it did. -/
def reportTurnedUptoRow : OpenClaim := { program := "ytdacifedlemlmaa", sum := "76a806965c6d9720d80c5ed2dd7d45e318eac36fd6b3b30c3f1b4a663b7523da", func := "catchpole/catchpolelaw25.ReportTurned", spec := "reportTurned", inPlace := ["math.Float64frombits", "math.Float64bits"], unfollowed := true, recurses := true, loops := true, apart := false, narrowed := true }
def ReportTurnedUptoSaid : Prop := reportTurnedUptoRow.holds Try.pinned (OpenSpec.upto reportTurnedSpec)

/-- 'catchpolelaw9.LangKnown', WHERE WHAT IT READS IS OF BULK AT MOST 1048576: true; the input reads as it did. -/
def langKnownUptoRow : OpenClaim := { program := "ytdacifedlemlmaa", sum := "76a806965c6d9720d80c5ed2dd7d45e318eac36fd6b3b30c3f1b4a663b7523da", func := "catchpole/catchpolelaw9.LangKnown", spec := "langKnown", unfollowed := true, recurses := true, apart := false, narrowed := true }
def LangKnownUptoSaid : Prop := langKnownUptoRow.holds Try.pinned (OpenSpec.upto langKnownSpec)

/-- 'catchpolelaw9.LangFirst', WHERE WHAT IT READS IS OF BULK AT MOST 1048576: true; the input reads as it did. -/
def langFirstUptoRow : OpenClaim := { program := "ytdacifedlemlmaa", sum := "76a806965c6d9720d80c5ed2dd7d45e318eac36fd6b3b30c3f1b4a663b7523da", func := "catchpole/catchpolelaw9.LangFirst", spec := "langFirst", unfollowed := true, recurses := true, loops := true, apart := false, narrowed := true }
def LangFirstUptoSaid : Prop := langFirstUptoRow.holds Try.pinned (OpenSpec.upto langFirstSpec)

end Rows
end Go.Proofs.Ytdacifedlemlmaa
