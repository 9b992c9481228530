/-
  No cell of these rows narrows 'for every input' (looked for: loops, veiled, ifaces, maps, wideKeys, modest, calm, conditions, laid).
  DERIVED. THE GIVEN ROWS OF THIS SEAT. 12 by the template 'for every input the law returns true; each argument reads behind the call as it read before'; 0 by the template 'total and deterministic' (their statements: YtejdmefiobgcdaaTotals.lean).
  GIVEN WITH THE SEED: the statements are not yours to turn. If you find one false, say at which input.
  Laid BY PROGRAM, IN A SANDBOX (cutbox-rows.mjs): the forced cells as the released guide's own fill.sh prints them over the translation 809b152faf83b20b… (all of the seat's roots in one cut). By AI agents, Wed Nov 11 2026. No macro, syntax, notation, axiom, sorry.
-/
import Derived.Test.YtejdmefiobgcdaaChecked
import GoSem.Claim
import GoSem.ClaimJoined
import GoSem.ClaimMapViews
import Derived.JoinedTies
import Derived.KernelRfl
namespace Go.Proofs.Ytejdmefiobgcdaa
/- THE CELL 'sum', in the pinned program and in every row, IS THE sha256 OF THE DUMP (.gsa) THAT YtejdmefiobgcdaaProg.lean LOADS. Nothing in Lean hashes anything: it is a label: what it is worth is what the hold of that sum in a sandbox is worth. -/
noncomputable def Try.pinned : Pinned := { name := "ytejdmefiobgcdaa", sum := "809b152faf83b20b2dcc8ba5184c94630fa96dc43037d3ef200fd9cd99eda303", checked := Try.checked }
namespace Rows
def none {H : Type} : Left H := { results := [], args := [] }

/-- 'tarrylaw15.NetOnce': WHATEVER THE INPUT: true; the input reads as it did. -/
def netOnceSpec : ChangeSpec := { name := "netOnce", fn := fun _ => fun
  | [d1, d2] => { results := [.lit (.bool true)], args := [d1, d2] }
  | _ => none }
def netOnceRow : OpenClaim := { program := "ytejdmefiobgcdaa", sum := "809b152faf83b20b2dcc8ba5184c94630fa96dc43037d3ef200fd9cd99eda303", func := "tarry/tarrylaw15.NetOnce", spec := "netOnce", apart := false }
def NetOnceSaid : Prop := netOnceRow.holds Try.pinned (OpenSpec.ofChange netOnceSpec)

/-- ITS FALSE NEIGHBOUR: 'it returns false'. Refute it at one input. -/
def netOnceWrong : ChangeSpec := { name := "netOnce", fn := fun _ => fun
  | [d1, d2] => { results := [.lit (.bool false)], args := [d1, d2] }
  | _ => none }
def NetOnceWrongFalsely : Prop := netOnceRow.holds Try.pinned (OpenSpec.ofChange netOnceWrong)

/-- 'tarrylaw04.FrameHurt': WHATEVER THE INPUT: true; the input reads as it did. -/
def frameHurtSpec : ChangeSpec := { name := "frameHurt", fn := fun _ => fun
  | [d1, d2, d3, d4] => { results := [.lit (.bool true)], args := [d1, d2, d3, d4] }
  | _ => none }
def frameHurtRow : OpenClaim := { program := "ytejdmefiobgcdaa", sum := "809b152faf83b20b2dcc8ba5184c94630fa96dc43037d3ef200fd9cd99eda303", func := "tarry/tarrylaw04.FrameHurt", spec := "frameHurt", unfollowed := true, recurses := true, apart := false }
def FrameHurtSaid : Prop := frameHurtRow.holds Try.pinned (OpenSpec.ofChange frameHurtSpec)

/-- ITS FALSE NEIGHBOUR: 'it returns false'. Refute it at one input. -/
def frameHurtWrong : ChangeSpec := { name := "frameHurt", fn := fun _ => fun
  | [d1, d2, d3, d4] => { results := [.lit (.bool false)], args := [d1, d2, d3, d4] }
  | _ => none }
def FrameHurtWrongFalsely : Prop := frameHurtRow.holds Try.pinned (OpenSpec.ofChange frameHurtWrong)

/-- 'tarrylaw14.OutboxTells': WHATEVER THE INPUT: true; the input reads as it did. -/
def outboxTellsSpec : ChangeSpec := { name := "outboxTells", fn := fun _ => fun
  | [d] => { results := [.lit (.bool true)], args := [d] }
  | _ => none }
def outboxTellsRow : OpenClaim := { program := "ytejdmefiobgcdaa", sum := "809b152faf83b20b2dcc8ba5184c94630fa96dc43037d3ef200fd9cd99eda303", func := "tarry/tarrylaw14.OutboxTells", spec := "outboxTells", unfollowed := true, recurses := true, apart := false }
def OutboxTellsSaid : Prop := outboxTellsRow.holds Try.pinned (OpenSpec.ofChange outboxTellsSpec)

/-- ITS FALSE NEIGHBOUR: 'it returns false'. Refute it at one input. -/
def outboxTellsWrong : ChangeSpec := { name := "outboxTells", fn := fun _ => fun
  | [d] => { results := [.lit (.bool false)], args := [d] }
  | _ => none }
def OutboxTellsWrongFalsely : Prop := outboxTellsRow.holds Try.pinned (OpenSpec.ofChange outboxTellsWrong)

/-- 'tarrylaw04.FrameBack': WHATEVER THE INPUT: true; the input reads as it did. -/
def frameBackSpec : ChangeSpec := { name := "frameBack", fn := fun _ => fun
  | [d1, d2, d3] => { results := [.lit (.bool true)], args := [d1, d2, d3] }
  | _ => none }
def frameBackRow : OpenClaim := { program := "ytejdmefiobgcdaa", sum := "809b152faf83b20b2dcc8ba5184c94630fa96dc43037d3ef200fd9cd99eda303", func := "tarry/tarrylaw04.FrameBack", spec := "frameBack", unfollowed := true, recurses := true, apart := false }
def FrameBackSaid : Prop := frameBackRow.holds Try.pinned (OpenSpec.ofChange frameBackSpec)

/-- ITS FALSE NEIGHBOUR: 'it returns false'. Refute it at one input. -/
def frameBackWrong : ChangeSpec := { name := "frameBack", fn := fun _ => fun
  | [d1, d2, d3] => { results := [.lit (.bool false)], args := [d1, d2, d3] }
  | _ => none }
def FrameBackWrongFalsely : Prop := frameBackRow.holds Try.pinned (OpenSpec.ofChange frameBackWrong)

/-- 'tarrylaw14.OutboxGoes': WHATEVER THE INPUT: true; the input reads as it did. -/
def outboxGoesSpec : ChangeSpec := { name := "outboxGoes", fn := fun _ => fun
  | [d1, d2, d3, d4, d5] => { results := [.lit (.bool true)], args := [d1, d2, d3, d4, d5] }
  | _ => none }
def outboxGoesRow : OpenClaim := { program := "ytejdmefiobgcdaa", sum := "809b152faf83b20b2dcc8ba5184c94630fa96dc43037d3ef200fd9cd99eda303", func := "tarry/tarrylaw14.OutboxGoes", spec := "outboxGoes", unfollowed := true, recurses := true, apart := false }
def OutboxGoesSaid : Prop := outboxGoesRow.holds Try.pinned (OpenSpec.ofChange outboxGoesSpec)

/-- ITS FALSE NEIGHBOUR: 'it returns false'. Refute it at one input. -/
def outboxGoesWrong : ChangeSpec := { name := "outboxGoes", fn := fun _ => fun
  | [d1, d2, d3, d4, d5] => { results := [.lit (.bool false)], args := [d1, d2, d3, d4, d5] }
  | _ => none }
def OutboxGoesWrongFalsely : Prop := outboxGoesRow.holds Try.pinned (OpenSpec.ofChange outboxGoesWrong)

/-- 'tarrylaw04.FrameScans': WHATEVER THE INPUT: true; the input reads as it did. -/
def frameScansSpec : ChangeSpec := { name := "frameScans", fn := fun _ => fun
  | [d1, d2] => { results := [.lit (.bool true)], args := [d1, d2] }
  | _ => none }
def frameScansRow : OpenClaim := { program := "ytejdmefiobgcdaa", sum := "809b152faf83b20b2dcc8ba5184c94630fa96dc43037d3ef200fd9cd99eda303", func := "tarry/tarrylaw04.FrameScans", spec := "frameScans", unfollowed := true, recurses := true, apart := false }
def FrameScansSaid : Prop := frameScansRow.holds Try.pinned (OpenSpec.ofChange frameScansSpec)

/-- ITS FALSE NEIGHBOUR: 'it returns false'. Refute it at one input. -/
def frameScansWrong : ChangeSpec := { name := "frameScans", fn := fun _ => fun
  | [d1, d2] => { results := [.lit (.bool false)], args := [d1, d2] }
  | _ => none }
def FrameScansWrongFalsely : Prop := frameScansRow.holds Try.pinned (OpenSpec.ofChange frameScansWrong)

/-- 'tarrylaw01.PackRows': WHATEVER THE INPUT: true; the input reads as it did. -/
def packRowsSpec : ChangeSpec := { name := "packRows", fn := fun _ => fun
  | [d1, d2] => { results := [.lit (.bool true)], args := [d1, d2] }
  | _ => none }
def packRowsRow : OpenClaim := { program := "ytejdmefiobgcdaa", sum := "809b152faf83b20b2dcc8ba5184c94630fa96dc43037d3ef200fd9cd99eda303", func := "tarry/tarrylaw01.PackRows", spec := "packRows", inPlace := ["internal/abi.NoEscape"], apart := false }
def PackRowsSaid : Prop := packRowsRow.holds Try.pinned (OpenSpec.ofChange packRowsSpec)

/-- ITS FALSE NEIGHBOUR: 'it returns false'. Refute it at one input. -/
def packRowsWrong : ChangeSpec := { name := "packRows", fn := fun _ => fun
  | [d1, d2] => { results := [.lit (.bool false)], args := [d1, d2] }
  | _ => none }
def PackRowsWrongFalsely : Prop := packRowsRow.holds Try.pinned (OpenSpec.ofChange packRowsWrong)

/-- 'tarrylaw01.PackBack': WHATEVER THE INPUT: true; the input reads as it did. -/
def packBackSpec : ChangeSpec := { name := "packBack", fn := fun _ => fun
  | [d1, d2, d3] => { results := [.lit (.bool true)], args := [d1, d2, d3] }
  | _ => none }
def packBackRow : OpenClaim := { program := "ytejdmefiobgcdaa", sum := "809b152faf83b20b2dcc8ba5184c94630fa96dc43037d3ef200fd9cd99eda303", func := "tarry/tarrylaw01.PackBack", spec := "packBack", inPlace := ["internal/abi.NoEscape"], apart := false }
def PackBackSaid : Prop := packBackRow.holds Try.pinned (OpenSpec.ofChange packBackSpec)

/-- ITS FALSE NEIGHBOUR: 'it returns false'. Refute it at one input. -/
def packBackWrong : ChangeSpec := { name := "packBack", fn := fun _ => fun
  | [d1, d2, d3] => { results := [.lit (.bool false)], args := [d1, d2, d3] }
  | _ => none }
def PackBackWrongFalsely : Prop := packBackRow.holds Try.pinned (OpenSpec.ofChange packBackWrong)

/-- 'tarrylaw03.DiskCrashes': WHATEVER THE INPUT: true; the input reads as it did. -/
def diskCrashesSpec : ChangeSpec := { name := "diskCrashes", fn := fun _ => fun
  | [d1, d2, d3] => { results := [.lit (.bool true)], args := [d1, d2, d3] }
  | _ => none }
def diskCrashesRow : OpenClaim := { program := "ytejdmefiobgcdaa", sum := "809b152faf83b20b2dcc8ba5184c94630fa96dc43037d3ef200fd9cd99eda303", func := "tarry/tarrylaw03.DiskCrashes", spec := "diskCrashes", inPlace := ["internal/abi.NoEscape", "internal/bytealg.MakeNoZero"], unfollowed := true, recurses := true, apart := false }
def DiskCrashesSaid : Prop := diskCrashesRow.holds Try.pinned (OpenSpec.ofChange diskCrashesSpec)

/-- ITS FALSE NEIGHBOUR: 'it returns false'. Refute it at one input. -/
def diskCrashesWrong : ChangeSpec := { name := "diskCrashes", fn := fun _ => fun
  | [d1, d2, d3] => { results := [.lit (.bool false)], args := [d1, d2, d3] }
  | _ => none }
def DiskCrashesWrongFalsely : Prop := diskCrashesRow.holds Try.pinned (OpenSpec.ofChange diskCrashesWrong)

/-- 'tarrylaw03.DiskWorks': WHATEVER THE INPUT: true; the input reads as it did. -/
def diskWorksSpec : ChangeSpec := { name := "diskWorks", fn := fun _ => fun
  | [d1, d2, d3, d4, d5, d6] => { results := [.lit (.bool true)], args := [d1, d2, d3, d4, d5, d6] }
  | _ => none }
def diskWorksRow : OpenClaim := { program := "ytejdmefiobgcdaa", sum := "809b152faf83b20b2dcc8ba5184c94630fa96dc43037d3ef200fd9cd99eda303", func := "tarry/tarrylaw03.DiskWorks", spec := "diskWorks", inPlace := ["internal/abi.NoEscape", "internal/bytealg.MakeNoZero"], unfollowed := true, recurses := true, apart := false }
def DiskWorksSaid : Prop := diskWorksRow.holds Try.pinned (OpenSpec.ofChange diskWorksSpec)

/-- ITS FALSE NEIGHBOUR: 'it returns false'. Refute it at one input. -/
def diskWorksWrong : ChangeSpec := { name := "diskWorks", fn := fun _ => fun
  | [d1, d2, d3, d4, d5, d6] => { results := [.lit (.bool false)], args := [d1, d2, d3, d4, d5, d6] }
  | _ => none }
def DiskWorksWrongFalsely : Prop := diskWorksRow.holds Try.pinned (OpenSpec.ofChange diskWorksWrong)

/-- 'tarrylaw03.DiskReads': WHATEVER THE INPUT: true; the input reads as it did. -/
def diskReadsSpec : ChangeSpec := { name := "diskReads", fn := fun _ => fun
  | [d1, d2, d3, d4, d5, d6] => { results := [.lit (.bool true)], args := [d1, d2, d3, d4, d5, d6] }
  | _ => none }
def diskReadsRow : OpenClaim := { program := "ytejdmefiobgcdaa", sum := "809b152faf83b20b2dcc8ba5184c94630fa96dc43037d3ef200fd9cd99eda303", func := "tarry/tarrylaw03.DiskReads", spec := "diskReads", inPlace := ["internal/abi.NoEscape", "internal/bytealg.MakeNoZero"], unfollowed := true, recurses := true, apart := false }
def DiskReadsSaid : Prop := diskReadsRow.holds Try.pinned (OpenSpec.ofChange diskReadsSpec)

/-- ITS FALSE NEIGHBOUR: 'it returns false'. Refute it at one input. -/
def diskReadsWrong : ChangeSpec := { name := "diskReads", fn := fun _ => fun
  | [d1, d2, d3, d4, d5, d6] => { results := [.lit (.bool false)], args := [d1, d2, d3, d4, d5, d6] }
  | _ => none }
def DiskReadsWrongFalsely : Prop := diskReadsRow.holds Try.pinned (OpenSpec.ofChange diskReadsWrong)

/-- 'tarrylaw08.StockKeeps': WHATEVER THE INPUT: true; the input reads as it did. -/
def stockKeepsSpec : ChangeSpec := { name := "stockKeeps", fn := fun _ => fun
  | [d] => { results := [.lit (.bool true)], args := [d] }
  | _ => none }
def stockKeepsRow : OpenClaim := { program := "ytejdmefiobgcdaa", sum := "809b152faf83b20b2dcc8ba5184c94630fa96dc43037d3ef200fd9cd99eda303", func := "tarry/tarrylaw08.StockKeeps", spec := "stockKeeps", inPlace := ["internal/bytealg.abigen_runtime_cmpstring", "slices.overlaps[tarry/api.Row]"], unfollowed := true, recurses := true, apart := false }
def StockKeepsSaid : Prop := stockKeepsRow.holds Try.pinned (OpenSpec.ofChange stockKeepsSpec)

/-- ITS FALSE NEIGHBOUR: 'it returns false'. Refute it at one input. -/
def stockKeepsWrong : ChangeSpec := { name := "stockKeeps", fn := fun _ => fun
  | [d] => { results := [.lit (.bool false)], args := [d] }
  | _ => none }
def StockKeepsWrongFalsely : Prop := stockKeepsRow.holds Try.pinned (OpenSpec.ofChange stockKeepsWrong)

/- THE SECOND FORM. 'bulk': how many values and letters a reading holds, each counted each time it is reached (what is shared counts as often as it is met; a slice's spare places count too). A statement '..UptoSaid' is the law's where the arguments, and the package variables that the reading takes, are together of bulk at most 1048576: NARROWER than '..Said'. Prove '..Said' where nothing that the law and all that it calls make is longer than what came in: it says more and counts as full. Else prove '..UptoSaid'. A law counts once. -/
mutual
def uptoBulk {H : Type} : DataW H → Nat
  | .lit (.string bytes) => bytes.length + 1
  | .lit _ => 1
  | .nil => 1
  | .ptr d => uptoBulk d + 1
  | .slice elems spare => uptoBulkAll elems + uptoBulkAll spare + 1
  | .agg parts => uptoBulkAll parts + 1
  | .iface _ d => uptoBulk d + 1
  | .map entries => uptoBulkEntries entries + 1
  | .held _ => 1
def uptoBulkAll {H : Type} : List (DataW H) → Nat
  | [] => 0
  | d :: r => uptoBulk d + uptoBulkAll r
def uptoBulkEntries {H : Type} : List (Lit × DataW H) → Nat
  | [] => 0
  | x :: r => uptoBulkEntry x + uptoBulkEntries r
def uptoBulkEntry {H : Type} : Lit × DataW H → Nat
  | (.string bytes, d) => bytes.length + uptoBulk d + 1
  | (_, d) => uptoBulk d + 1
 end
def uptoSmall : (H : Type) → List (DataW H) → Bool := fun _ ds => decide (uptoBulkAll ds ≤ 1048576)
def OpenSpec.upto (s : _root_.Go.ChangeSpec) : _root_.Go.OpenSpec := { _root_.Go.OpenSpec.ofChange s with cond := some uptoSmall }

/-- 'tarrylaw15.NetOnce', WHERE WHAT IT READS IS OF BULK AT MOST 1048576: true; the input reads as it did. -/
def netOnceUptoRow : OpenClaim := { program := "ytejdmefiobgcdaa", sum := "809b152faf83b20b2dcc8ba5184c94630fa96dc43037d3ef200fd9cd99eda303", func := "tarry/tarrylaw15.NetOnce", spec := "netOnce", apart := false, narrowed := true }
def NetOnceUptoSaid : Prop := netOnceUptoRow.holds Try.pinned (OpenSpec.upto netOnceSpec)

/-- 'tarrylaw04.FrameHurt', WHERE WHAT IT READS IS OF BULK AT MOST 1048576: true; the input reads as it did. -/
def frameHurtUptoRow : OpenClaim := { program := "ytejdmefiobgcdaa", sum := "809b152faf83b20b2dcc8ba5184c94630fa96dc43037d3ef200fd9cd99eda303", func := "tarry/tarrylaw04.FrameHurt", spec := "frameHurt", unfollowed := true, recurses := true, apart := false, narrowed := true }
def FrameHurtUptoSaid : Prop := frameHurtUptoRow.holds Try.pinned (OpenSpec.upto frameHurtSpec)

/-- 'tarrylaw14.OutboxTells', WHERE WHAT IT READS IS OF BULK AT MOST 1048576: true; the input reads as it did. -/
def outboxTellsUptoRow : OpenClaim := { program := "ytejdmefiobgcdaa", sum := "809b152faf83b20b2dcc8ba5184c94630fa96dc43037d3ef200fd9cd99eda303", func := "tarry/tarrylaw14.OutboxTells", spec := "outboxTells", unfollowed := true, recurses := true, apart := false, narrowed := true }
def OutboxTellsUptoSaid : Prop := outboxTellsUptoRow.holds Try.pinned (OpenSpec.upto outboxTellsSpec)

/-- 'tarrylaw04.FrameBack', WHERE WHAT IT READS IS OF BULK AT MOST 1048576: true; the input reads as it did. -/
def frameBackUptoRow : OpenClaim := { program := "ytejdmefiobgcdaa", sum := "809b152faf83b20b2dcc8ba5184c94630fa96dc43037d3ef200fd9cd99eda303", func := "tarry/tarrylaw04.FrameBack", spec := "frameBack", unfollowed := true, recurses := true, apart := false, narrowed := true }
def FrameBackUptoSaid : Prop := frameBackUptoRow.holds Try.pinned (OpenSpec.upto frameBackSpec)

/-- 'tarrylaw14.OutboxGoes', WHERE WHAT IT READS IS OF BULK AT MOST 1048576: true; the input reads as it did. -/
def outboxGoesUptoRow : OpenClaim := { program := "ytejdmefiobgcdaa", sum := "809b152faf83b20b2dcc8ba5184c94630fa96dc43037d3ef200fd9cd99eda303", func := "tarry/tarrylaw14.OutboxGoes", spec := "outboxGoes", unfollowed := true, recurses := true, apart := false, narrowed := true }
def OutboxGoesUptoSaid : Prop := outboxGoesUptoRow.holds Try.pinned (OpenSpec.upto outboxGoesSpec)

/-- 'tarrylaw04.FrameScans', WHERE WHAT IT READS IS OF BULK AT MOST 1048576: true; the input reads as it did. -/
def frameScansUptoRow : OpenClaim := { program := "ytejdmefiobgcdaa", sum := "809b152faf83b20b2dcc8ba5184c94630fa96dc43037d3ef200fd9cd99eda303", func := "tarry/tarrylaw04.FrameScans", spec := "frameScans", unfollowed := true, recurses := true, apart := false, narrowed := true }
def FrameScansUptoSaid : Prop := frameScansUptoRow.holds Try.pinned (OpenSpec.upto frameScansSpec)

/-- 'tarrylaw01.PackRows', WHERE WHAT IT READS IS OF BULK AT MOST 1048576: true; the input reads as it did. -/
def packRowsUptoRow : OpenClaim := { program := "ytejdmefiobgcdaa", sum := "809b152faf83b20b2dcc8ba5184c94630fa96dc43037d3ef200fd9cd99eda303", func := "tarry/tarrylaw01.PackRows", spec := "packRows", inPlace := ["internal/abi.NoEscape"], apart := false, narrowed := true }
def PackRowsUptoSaid : Prop := packRowsUptoRow.holds Try.pinned (OpenSpec.upto packRowsSpec)

/-- 'tarrylaw01.PackBack', WHERE WHAT IT READS IS OF BULK AT MOST 1048576: true; the input reads as it did. -/
def packBackUptoRow : OpenClaim := { program := "ytejdmefiobgcdaa", sum := "809b152faf83b20b2dcc8ba5184c94630fa96dc43037d3ef200fd9cd99eda303", func := "tarry/tarrylaw01.PackBack", spec := "packBack", inPlace := ["internal/abi.NoEscape"], apart := false, narrowed := true }
def PackBackUptoSaid : Prop := packBackUptoRow.holds Try.pinned (OpenSpec.upto packBackSpec)

/-- 'tarrylaw03.DiskCrashes', WHERE WHAT IT READS IS OF BULK AT MOST 1048576: true; the input reads as it did. -/
def diskCrashesUptoRow : OpenClaim := { program := "ytejdmefiobgcdaa", sum := "809b152faf83b20b2dcc8ba5184c94630fa96dc43037d3ef200fd9cd99eda303", func := "tarry/tarrylaw03.DiskCrashes", spec := "diskCrashes", inPlace := ["internal/abi.NoEscape", "internal/bytealg.MakeNoZero"], unfollowed := true, recurses := true, apart := false, narrowed := true }
def DiskCrashesUptoSaid : Prop := diskCrashesUptoRow.holds Try.pinned (OpenSpec.upto diskCrashesSpec)

/-- 'tarrylaw03.DiskWorks', WHERE WHAT IT READS IS OF BULK AT MOST 1048576: true; the input reads as it did. -/
def diskWorksUptoRow : OpenClaim := { program := "ytejdmefiobgcdaa", sum := "809b152faf83b20b2dcc8ba5184c94630fa96dc43037d3ef200fd9cd99eda303", func := "tarry/tarrylaw03.DiskWorks", spec := "diskWorks", inPlace := ["internal/abi.NoEscape", "internal/bytealg.MakeNoZero"], unfollowed := true, recurses := true, apart := false, narrowed := true }
def DiskWorksUptoSaid : Prop := diskWorksUptoRow.holds Try.pinned (OpenSpec.upto diskWorksSpec)

/-- 'tarrylaw03.DiskReads', WHERE WHAT IT READS IS OF BULK AT MOST 1048576: true; the input reads as it did. -/
def diskReadsUptoRow : OpenClaim := { program := "ytejdmefiobgcdaa", sum := "809b152faf83b20b2dcc8ba5184c94630fa96dc43037d3ef200fd9cd99eda303", func := "tarry/tarrylaw03.DiskReads", spec := "diskReads", inPlace := ["internal/abi.NoEscape", "internal/bytealg.MakeNoZero"], unfollowed := true, recurses := true, apart := false, narrowed := true }
def DiskReadsUptoSaid : Prop := diskReadsUptoRow.holds Try.pinned (OpenSpec.upto diskReadsSpec)

/-- 'tarrylaw08.StockKeeps', WHERE WHAT IT READS IS OF BULK AT MOST 1048576: true; the input reads as it did. -/
def stockKeepsUptoRow : OpenClaim := { program := "ytejdmefiobgcdaa", sum := "809b152faf83b20b2dcc8ba5184c94630fa96dc43037d3ef200fd9cd99eda303", func := "tarry/tarrylaw08.StockKeeps", spec := "stockKeeps", inPlace := ["internal/bytealg.abigen_runtime_cmpstring", "slices.overlaps[tarry/api.Row]"], unfollowed := true, recurses := true, apart := false, narrowed := true }
def StockKeepsUptoSaid : Prop := stockKeepsUptoRow.holds Try.pinned (OpenSpec.upto stockKeepsSpec)

end Rows
end Go.Proofs.Ytejdmefiobgcdaa
