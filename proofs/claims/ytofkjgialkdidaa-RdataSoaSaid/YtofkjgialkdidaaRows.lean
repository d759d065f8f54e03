/-
  No cell of these rows narrows 'for every input' (looked for: loops, veiled, ifaces, maps, wideKeys, modest, calm, conditions, laid).
  DERIVED. THE GIVEN ROWS OF THIS SEAT. 12 by the template 'for every input the law returns true; each argument reads behind the call as it read before'; 0 by the template 'total and deterministic' (their statements: YtofkjgialkdidaaTotals.lean).
  GIVEN WITH THE SEED: the statements are not yours to turn. If you find one false, say at which input.
  Laid BY PROGRAM, IN A SANDBOX (cutbox-rows.mjs): the forced cells as the released guide's own fill.sh prints them over the translation b3a53dc219cbc25e… (all of the seat's roots in one cut). By AI agents, Wed Nov 11 2026. No macro, syntax, notation, axiom, sorry.
-/
import Derived.Test.YtofkjgialkdidaaChecked
import GoSem.Claim
import GoSem.ClaimJoined
import GoSem.ClaimMapViews
import Derived.JoinedTies
import Derived.KernelRfl
namespace Go.Proofs.Ytofkjgialkdidaa
/- THE CELL 'sum', in the pinned program and in every row, IS THE sha256 OF THE DUMP (.gsa) THAT YtofkjgialkdidaaProg.lean LOADS. Nothing in Lean hashes anything: it is a label: what it is worth is what the hold of that sum in a sandbox is worth. -/
noncomputable def Try.pinned : Pinned := { name := "ytofkjgialkdidaa", sum := "b3a53dc219cbc25e0ad45b9317baa2cc6e3d7fc83d1c9567aef9e3e151cd447f", checked := Try.checked }
namespace Rows
def none {H : Type} : Left H := { results := [], args := [] }

/-- 'beadrolllaw10.RdataTells': WHATEVER THE INPUT: true; the input reads as it did. -/
def rdataTellsSpec : ChangeSpec := { name := "rdataTells", fn := fun _ => fun
  | [d1, d2] => { results := [.lit (.bool true)], args := [d1, d2] }
  | _ => none }
def rdataTellsRow : OpenClaim := { program := "ytofkjgialkdidaa", sum := "b3a53dc219cbc25e0ad45b9317baa2cc6e3d7fc83d1c9567aef9e3e151cd447f", func := "beadroll/beadrolllaw10.RdataTells", spec := "rdataTells", inPlace := ["internal/abi.NoEscape"], unfollowed := true, recurses := true, apart := false }
def RdataTellsSaid : Prop := rdataTellsRow.holds Try.pinned (OpenSpec.ofChange rdataTellsSpec)

/-- ITS FALSE NEIGHBOUR: 'it returns false'. Refute it at one input. -/
def rdataTellsWrong : ChangeSpec := { name := "rdataTells", fn := fun _ => fun
  | [d1, d2] => { results := [.lit (.bool false)], args := [d1, d2] }
  | _ => none }
def RdataTellsWrongFalsely : Prop := rdataTellsRow.holds Try.pinned (OpenSpec.ofChange rdataTellsWrong)

/-- 'beadrolllaw10.RdataFolds': WHATEVER THE INPUT: true; the input reads as it did. -/
def rdataFoldsSpec : ChangeSpec := { name := "rdataFolds", fn := fun _ => fun
  | [d1, d2] => { results := [.lit (.bool true)], args := [d1, d2] }
  | _ => none }
def rdataFoldsRow : OpenClaim := { program := "ytofkjgialkdidaa", sum := "b3a53dc219cbc25e0ad45b9317baa2cc6e3d7fc83d1c9567aef9e3e151cd447f", func := "beadroll/beadrolllaw10.RdataFolds", spec := "rdataFolds", inPlace := ["internal/abi.NoEscape"], unfollowed := true, recurses := true, apart := false }
def RdataFoldsSaid : Prop := rdataFoldsRow.holds Try.pinned (OpenSpec.ofChange rdataFoldsSpec)

/-- ITS FALSE NEIGHBOUR: 'it returns false'. Refute it at one input. -/
def rdataFoldsWrong : ChangeSpec := { name := "rdataFolds", fn := fun _ => fun
  | [d1, d2] => { results := [.lit (.bool false)], args := [d1, d2] }
  | _ => none }
def RdataFoldsWrongFalsely : Prop := rdataFoldsRow.holds Try.pinned (OpenSpec.ofChange rdataFoldsWrong)

/-- 'beadrolllaw10.RdataWrites': WHATEVER THE INPUT: true; the input reads as it did. -/
def rdataWritesSpec : ChangeSpec := { name := "rdataWrites", fn := fun _ => fun
  | [d] => { results := [.lit (.bool true)], args := [d] }
  | _ => none }
def rdataWritesRow : OpenClaim := { program := "ytofkjgialkdidaa", sum := "b3a53dc219cbc25e0ad45b9317baa2cc6e3d7fc83d1c9567aef9e3e151cd447f", func := "beadroll/beadrolllaw10.RdataWrites", spec := "rdataWrites", inPlace := ["internal/abi.NoEscape"], unfollowed := true, recurses := true, apart := false }
def RdataWritesSaid : Prop := rdataWritesRow.holds Try.pinned (OpenSpec.ofChange rdataWritesSpec)

/-- ITS FALSE NEIGHBOUR: 'it returns false'. Refute it at one input. -/
def rdataWritesWrong : ChangeSpec := { name := "rdataWrites", fn := fun _ => fun
  | [d] => { results := [.lit (.bool false)], args := [d] }
  | _ => none }
def RdataWritesWrongFalsely : Prop := rdataWritesRow.holds Try.pinned (OpenSpec.ofChange rdataWritesWrong)

/-- 'beadrolllaw10.RdataSoa': WHATEVER THE INPUT: true; the input reads as it did. -/
def rdataSoaSpec : ChangeSpec := { name := "rdataSoa", fn := fun _ => fun
  | [d1, d2] => { results := [.lit (.bool true)], args := [d1, d2] }
  | _ => none }
def rdataSoaRow : OpenClaim := { program := "ytofkjgialkdidaa", sum := "b3a53dc219cbc25e0ad45b9317baa2cc6e3d7fc83d1c9567aef9e3e151cd447f", func := "beadroll/beadrolllaw10.RdataSoa", spec := "rdataSoa", inPlace := ["internal/abi.NoEscape", "internal/bytealg.MakeNoZero"], unfollowed := true, recurses := true, apart := false }
def RdataSoaSaid : Prop := rdataSoaRow.holds Try.pinned (OpenSpec.ofChange rdataSoaSpec)

/-- ITS FALSE NEIGHBOUR: 'it returns false'. Refute it at one input. -/
def rdataSoaWrong : ChangeSpec := { name := "rdataSoa", fn := fun _ => fun
  | [d1, d2] => { results := [.lit (.bool false)], args := [d1, d2] }
  | _ => none }
def RdataSoaWrongFalsely : Prop := rdataSoaRow.holds Try.pinned (OpenSpec.ofChange rdataSoaWrong)

/-- 'beadrolllaw11.RecordTells': WHATEVER THE INPUT: true; the input reads as it did. -/
def recordTellsSpec : ChangeSpec := { name := "recordTells", fn := fun _ => fun
  | [d1, d2] => { results := [.lit (.bool true)], args := [d1, d2] }
  | _ => none }
def recordTellsRow : OpenClaim := { program := "ytofkjgialkdidaa", sum := "b3a53dc219cbc25e0ad45b9317baa2cc6e3d7fc83d1c9567aef9e3e151cd447f", func := "beadroll/beadrolllaw11.RecordTells", spec := "recordTells", inPlace := ["internal/abi.NoEscape"], unfollowed := true, recurses := true, apart := false }
def RecordTellsSaid : Prop := recordTellsRow.holds Try.pinned (OpenSpec.ofChange recordTellsSpec)

/-- ITS FALSE NEIGHBOUR: 'it returns false'. Refute it at one input. -/
def recordTellsWrong : ChangeSpec := { name := "recordTells", fn := fun _ => fun
  | [d1, d2] => { results := [.lit (.bool false)], args := [d1, d2] }
  | _ => none }
def RecordTellsWrongFalsely : Prop := recordTellsRow.holds Try.pinned (OpenSpec.ofChange recordTellsWrong)

/-- 'beadrolllaw11.RecordOrders': WHATEVER THE INPUT: true; the input reads as it did. -/
def recordOrdersSpec : ChangeSpec := { name := "recordOrders", fn := fun _ => fun
  | [d1, d2, d3] => { results := [.lit (.bool true)], args := [d1, d2, d3] }
  | _ => none }
def recordOrdersRow : OpenClaim := { program := "ytofkjgialkdidaa", sum := "b3a53dc219cbc25e0ad45b9317baa2cc6e3d7fc83d1c9567aef9e3e151cd447f", func := "beadroll/beadrolllaw11.RecordOrders", spec := "recordOrders", inPlace := ["internal/abi.NoEscape"], unfollowed := true, recurses := true, apart := false }
def RecordOrdersSaid : Prop := recordOrdersRow.holds Try.pinned (OpenSpec.ofChange recordOrdersSpec)

/-- ITS FALSE NEIGHBOUR: 'it returns false'. Refute it at one input. -/
def recordOrdersWrong : ChangeSpec := { name := "recordOrders", fn := fun _ => fun
  | [d1, d2, d3] => { results := [.lit (.bool false)], args := [d1, d2, d3] }
  | _ => none }
def RecordOrdersWrongFalsely : Prop := recordOrdersRow.holds Try.pinned (OpenSpec.ofChange recordOrdersWrong)

/-- 'beadrolllaw11.RecordAges': WHATEVER THE INPUT: true; the input reads as it did. -/
def recordAgesSpec : ChangeSpec := { name := "recordAges", fn := fun _ => fun
  | [d1, d2, d3] => { results := [.lit (.bool true)], args := [d1, d2, d3] }
  | _ => none }
def recordAgesRow : OpenClaim := { program := "ytofkjgialkdidaa", sum := "b3a53dc219cbc25e0ad45b9317baa2cc6e3d7fc83d1c9567aef9e3e151cd447f", func := "beadroll/beadrolllaw11.RecordAges", spec := "recordAges", inPlace := ["internal/abi.NoEscape"], unfollowed := true, recurses := true, apart := false }
def RecordAgesSaid : Prop := recordAgesRow.holds Try.pinned (OpenSpec.ofChange recordAgesSpec)

/-- ITS FALSE NEIGHBOUR: 'it returns false'. Refute it at one input. -/
def recordAgesWrong : ChangeSpec := { name := "recordAges", fn := fun _ => fun
  | [d1, d2, d3] => { results := [.lit (.bool false)], args := [d1, d2, d3] }
  | _ => none }
def RecordAgesWrongFalsely : Prop := recordAgesRow.holds Try.pinned (OpenSpec.ofChange recordAgesWrong)

/-- 'beadrolllaw12.MessageEncodes': WHATEVER THE INPUT: true; the input reads as it did. -/
def messageEncodesSpec : ChangeSpec := { name := "messageEncodes", fn := fun _ => fun
  | [d] => { results := [.lit (.bool true)], args := [d] }
  | _ => none }
def messageEncodesRow : OpenClaim := { program := "ytofkjgialkdidaa", sum := "b3a53dc219cbc25e0ad45b9317baa2cc6e3d7fc83d1c9567aef9e3e151cd447f", func := "beadroll/beadrolllaw12.MessageEncodes", spec := "messageEncodes", inPlace := ["maps.clone"], unfollowed := true, recurses := true, apart := false }
def MessageEncodesSaid : Prop := messageEncodesRow.holds Try.pinned (OpenSpec.ofChange messageEncodesSpec)

/-- ITS FALSE NEIGHBOUR: 'it returns false'. Refute it at one input. -/
def messageEncodesWrong : ChangeSpec := { name := "messageEncodes", fn := fun _ => fun
  | [d] => { results := [.lit (.bool false)], args := [d] }
  | _ => none }
def MessageEncodesWrongFalsely : Prop := messageEncodesRow.holds Try.pinned (OpenSpec.ofChange messageEncodesWrong)

/-- 'beadrolllaw12.MessageReplies': WHATEVER THE INPUT: true; the input reads as it did. -/
def messageRepliesSpec : ChangeSpec := { name := "messageReplies", fn := fun _ => fun
  | [d1, d2] => { results := [.lit (.bool true)], args := [d1, d2] }
  | _ => none }
def messageRepliesRow : OpenClaim := { program := "ytofkjgialkdidaa", sum := "b3a53dc219cbc25e0ad45b9317baa2cc6e3d7fc83d1c9567aef9e3e151cd447f", func := "beadroll/beadrolllaw12.MessageReplies", spec := "messageReplies", inPlace := ["maps.clone"], unfollowed := true, recurses := true, apart := false }
def MessageRepliesSaid : Prop := messageRepliesRow.holds Try.pinned (OpenSpec.ofChange messageRepliesSpec)

/-- ITS FALSE NEIGHBOUR: 'it returns false'. Refute it at one input. -/
def messageRepliesWrong : ChangeSpec := { name := "messageReplies", fn := fun _ => fun
  | [d1, d2] => { results := [.lit (.bool false)], args := [d1, d2] }
  | _ => none }
def MessageRepliesWrongFalsely : Prop := messageRepliesRow.holds Try.pinned (OpenSpec.ofChange messageRepliesWrong)

/-- 'beadrolllaw17.EntryBytes': WHATEVER THE INPUT: true; the input reads as it did. -/
def entryBytesSpec : ChangeSpec := { name := "entryBytes", fn := fun _ => fun
  | [d] => { results := [.lit (.bool true)], args := [d] }
  | _ => none }
def entryBytesRow : OpenClaim := { program := "ytofkjgialkdidaa", sum := "b3a53dc219cbc25e0ad45b9317baa2cc6e3d7fc83d1c9567aef9e3e151cd447f", func := "beadroll/beadrolllaw17.EntryBytes", spec := "entryBytes", inPlace := ["maps.clone", "internal/abi.NoEscape"], unfollowed := true, recurses := true, apart := false }
def EntryBytesSaid : Prop := entryBytesRow.holds Try.pinned (OpenSpec.ofChange entryBytesSpec)

/-- ITS FALSE NEIGHBOUR: 'it returns false'. Refute it at one input. -/
def entryBytesWrong : ChangeSpec := { name := "entryBytes", fn := fun _ => fun
  | [d] => { results := [.lit (.bool false)], args := [d] }
  | _ => none }
def EntryBytesWrongFalsely : Prop := entryBytesRow.holds Try.pinned (OpenSpec.ofChange entryBytesWrong)

/-- 'beadrolllaw17.EntryOwn': WHATEVER THE INPUT: true; the input reads as it did. -/
def entryOwnSpec : ChangeSpec := { name := "entryOwn", fn := fun _ => fun
  | [d] => { results := [.lit (.bool true)], args := [d] }
  | _ => none }
def entryOwnRow : OpenClaim := { program := "ytofkjgialkdidaa", sum := "b3a53dc219cbc25e0ad45b9317baa2cc6e3d7fc83d1c9567aef9e3e151cd447f", func := "beadroll/beadrolllaw17.EntryOwn", spec := "entryOwn", inPlace := ["maps.clone", "internal/abi.NoEscape"], unfollowed := true, recurses := true, apart := false }
def EntryOwnSaid : Prop := entryOwnRow.holds Try.pinned (OpenSpec.ofChange entryOwnSpec)

/-- ITS FALSE NEIGHBOUR: 'it returns false'. Refute it at one input. -/
def entryOwnWrong : ChangeSpec := { name := "entryOwn", fn := fun _ => fun
  | [d] => { results := [.lit (.bool false)], args := [d] }
  | _ => none }
def EntryOwnWrongFalsely : Prop := entryOwnRow.holds Try.pinned (OpenSpec.ofChange entryOwnWrong)

/-- 'beadrolllaw11.RecordWrites': WHATEVER THE INPUT: true; the input reads as it did. -/
def recordWritesSpec : ChangeSpec := { name := "recordWrites", fn := fun _ => fun
  | [d] => { results := [.lit (.bool true)], args := [d] }
  | _ => none }
def recordWritesRow : OpenClaim := { program := "ytofkjgialkdidaa", sum := "b3a53dc219cbc25e0ad45b9317baa2cc6e3d7fc83d1c9567aef9e3e151cd447f", func := "beadroll/beadrolllaw11.RecordWrites", spec := "recordWrites", inPlace := ["internal/abi.NoEscape", "maps.clone"], unfollowed := true, recurses := true, apart := false }
def RecordWritesSaid : Prop := recordWritesRow.holds Try.pinned (OpenSpec.ofChange recordWritesSpec)

/-- ITS FALSE NEIGHBOUR: 'it returns false'. Refute it at one input. -/
def recordWritesWrong : ChangeSpec := { name := "recordWrites", fn := fun _ => fun
  | [d] => { results := [.lit (.bool false)], args := [d] }
  | _ => none }
def RecordWritesWrongFalsely : Prop := recordWritesRow.holds Try.pinned (OpenSpec.ofChange recordWritesWrong)

/- THE SECOND FORM. 'bulk': how many values and letters a reading holds, each counted each time it is reached (what is shared counts as often as it is met; a slice's spare places count too). A statement '..UptoSaid' is the law's where the arguments, and the package variables that the reading takes, are together of bulk at most 1048576: NARROWER than '..Said'. Prove '..Said' where nothing that the law and all that it calls make is longer than what came in: it says more and counts as full. Else prove '..UptoSaid'. A law counts once. -/
mutual
def uptoBulk {H : Type} : DataW H → Nat
  | .lit (.string bytes) => bytes.length + 1
  | .lit _ => 1
  | .nil => 1
  | .ptr d => uptoBulk d + 1
  | .slice elems spare => uptoBulkAll elems + uptoBulkAll spare + 1
  | .agg parts => uptoBulkAll parts + 1
  | .iface _ d => uptoBulk d + 1
  | .map entries => uptoBulkEntries entries + 1
  | .held _ => 1
def uptoBulkAll {H : Type} : List (DataW H) → Nat
  | [] => 0
  | d :: r => uptoBulk d + uptoBulkAll r
def uptoBulkEntries {H : Type} : List (Lit × DataW H) → Nat
  | [] => 0
  | x :: r => uptoBulkEntry x + uptoBulkEntries r
def uptoBulkEntry {H : Type} : Lit × DataW H → Nat
  | (.string bytes, d) => bytes.length + uptoBulk d + 1
  | (_, d) => uptoBulk d + 1
 end
def uptoSmall : (H : Type) → List (DataW H) → Bool := fun _ ds => decide (uptoBulkAll ds ≤ 1048576)
def OpenSpec.upto (s : _root_.Go.ChangeSpec) : _root_.Go.OpenSpec := { _root_.Go.OpenSpec.ofChange s with cond := some uptoSmall }

/-- 'beadrolllaw10.RdataTells', WHERE WHAT IT READS IS OF BULK AT MOST 1048576: true; the input reads as it did. -/
def rdataTellsUptoRow : OpenClaim := { program := "ytofkjgialkdidaa", sum := "b3a53dc219cbc25e0ad45b9317baa2cc6e3d7fc83d1c9567aef9e3e151cd447f", func := "beadroll/beadrolllaw10.RdataTells", spec := "rdataTells", inPlace := ["internal/abi.NoEscape"], unfollowed := true, recurses := true, apart := false, narrowed := true }
def RdataTellsUptoSaid : Prop := rdataTellsUptoRow.holds Try.pinned (OpenSpec.upto rdataTellsSpec)

/-- 'beadrolllaw10.RdataFolds', WHERE WHAT IT READS IS OF BULK AT MOST 1048576: true; the input reads as it did. -/
def rdataFoldsUptoRow : OpenClaim := { program := "ytofkjgialkdidaa", sum := "b3a53dc219cbc25e0ad45b9317baa2cc6e3d7fc83d1c9567aef9e3e151cd447f", func := "beadroll/beadrolllaw10.RdataFolds", spec := "rdataFolds", inPlace := ["internal/abi.NoEscape"], unfollowed := true, recurses := true, apart := false, narrowed := true }
def RdataFoldsUptoSaid : Prop := rdataFoldsUptoRow.holds Try.pinned (OpenSpec.upto rdataFoldsSpec)

/-- 'beadrolllaw10.RdataWrites', WHERE WHAT IT READS IS OF BULK AT MOST 1048576: true; the input reads as it did. -/
def rdataWritesUptoRow : OpenClaim := { program := "ytofkjgialkdidaa", sum := "b3a53dc219cbc25e0ad45b9317baa2cc6e3d7fc83d1c9567aef9e3e151cd447f", func := "beadroll/beadrolllaw10.RdataWrites", spec := "rdataWrites", inPlace := ["internal/abi.NoEscape"], unfollowed := true, recurses := true, apart := false, narrowed := true }
def RdataWritesUptoSaid : Prop := rdataWritesUptoRow.holds Try.pinned (OpenSpec.upto rdataWritesSpec)

/-- 'beadrolllaw10.RdataSoa', WHERE WHAT IT READS IS OF BULK AT MOST 1048576: true; the input reads as it did. -/
def rdataSoaUptoRow : OpenClaim := { program := "ytofkjgialkdidaa", sum := "b3a53dc219cbc25e0ad45b9317baa2cc6e3d7fc83d1c9567aef9e3e151cd447f", func := "beadroll/beadrolllaw10.RdataSoa", spec := "rdataSoa", inPlace := ["internal/abi.NoEscape", "internal/bytealg.MakeNoZero"], unfollowed := true, recurses := true, apart := false, narrowed := true }
def RdataSoaUptoSaid : Prop := rdataSoaUptoRow.holds Try.pinned (OpenSpec.upto rdataSoaSpec)

/-- 'beadrolllaw11.RecordTells', WHERE WHAT IT READS IS OF BULK AT MOST 1048576: true; the input reads as it did. -/
def recordTellsUptoRow : OpenClaim := { program := "ytofkjgialkdidaa", sum := "b3a53dc219cbc25e0ad45b9317baa2cc6e3d7fc83d1c9567aef9e3e151cd447f", func := "beadroll/beadrolllaw11.RecordTells", spec := "recordTells", inPlace := ["internal/abi.NoEscape"], unfollowed := true, recurses := true, apart := false, narrowed := true }
def RecordTellsUptoSaid : Prop := recordTellsUptoRow.holds Try.pinned (OpenSpec.upto recordTellsSpec)

/-- 'beadrolllaw11.RecordOrders', WHERE WHAT IT READS IS OF BULK AT MOST 1048576: true; the input reads as it did. -/
def recordOrdersUptoRow : OpenClaim := { program := "ytofkjgialkdidaa", sum := "b3a53dc219cbc25e0ad45b9317baa2cc6e3d7fc83d1c9567aef9e3e151cd447f", func := "beadroll/beadrolllaw11.RecordOrders", spec := "recordOrders", inPlace := ["internal/abi.NoEscape"], unfollowed := true, recurses := true, apart := false, narrowed := true }
def RecordOrdersUptoSaid : Prop := recordOrdersUptoRow.holds Try.pinned (OpenSpec.upto recordOrdersSpec)

/-- 'beadrolllaw11.RecordAges', WHERE WHAT IT READS IS OF BULK AT MOST 1048576: true; the input reads as it did. -/
def recordAgesUptoRow : OpenClaim := { program := "ytofkjgialkdidaa", sum := "b3a53dc219cbc25e0ad45b9317baa2cc6e3d7fc83d1c9567aef9e3e151cd447f", func := "beadroll/beadrolllaw11.RecordAges", spec := "recordAges", inPlace := ["internal/abi.NoEscape"], unfollowed := true, recurses := true, apart := false, narrowed := true }
def RecordAgesUptoSaid : Prop := recordAgesUptoRow.holds Try.pinned (OpenSpec.upto recordAgesSpec)

/-- 'beadrolllaw12.MessageEncodes', WHERE WHAT IT READS IS OF BULK AT MOST 1048576: true; the input reads as it did. -/
def messageEncodesUptoRow : OpenClaim := { program := "ytofkjgialkdidaa", sum := "b3a53dc219cbc25e0ad45b9317baa2cc6e3d7fc83d1c9567aef9e3e151cd447f", func := "beadroll/beadrolllaw12.MessageEncodes", spec := "messageEncodes", inPlace := ["maps.clone"], unfollowed := true, recurses := true, apart := false, narrowed := true }
def MessageEncodesUptoSaid : Prop := messageEncodesUptoRow.holds Try.pinned (OpenSpec.upto messageEncodesSpec)

/-- 'beadrolllaw12.MessageReplies', WHERE WHAT IT READS IS OF BULK AT MOST 1048576: true; the input reads as it did. -/
def messageRepliesUptoRow : OpenClaim := { program := "ytofkjgialkdidaa", sum := "b3a53dc219cbc25e0ad45b9317baa2cc6e3d7fc83d1c9567aef9e3e151cd447f", func := "beadroll/beadrolllaw12.MessageReplies", spec := "messageReplies", inPlace := ["maps.clone"], unfollowed := true, recurses := true, apart := false, narrowed := true }
def MessageRepliesUptoSaid : Prop := messageRepliesUptoRow.holds Try.pinned (OpenSpec.upto messageRepliesSpec)

/-- 'beadrolllaw17.EntryBytes', WHERE WHAT IT READS IS OF BULK AT MOST 1048576: true; the input reads as it did. -/
def entryBytesUptoRow : OpenClaim := { program := "ytofkjgialkdidaa", sum := "b3a53dc219cbc25e0ad45b9317baa2cc6e3d7fc83d1c9567aef9e3e151cd447f", func := "beadroll/beadrolllaw17.EntryBytes", spec := "entryBytes", inPlace := ["maps.clone", "internal/abi.NoEscape"], unfollowed := true, recurses := true, apart := false, narrowed := true }
def EntryBytesUptoSaid : Prop := entryBytesUptoRow.holds Try.pinned (OpenSpec.upto entryBytesSpec)

/-- 'beadrolllaw17.EntryOwn', WHERE WHAT IT READS IS OF BULK AT MOST 1048576: true; the input reads as it did. -/
def entryOwnUptoRow : OpenClaim := { program := "ytofkjgialkdidaa", sum := "b3a53dc219cbc25e0ad45b9317baa2cc6e3d7fc83d1c9567aef9e3e151cd447f", func := "beadroll/beadrolllaw17.EntryOwn", spec := "entryOwn", inPlace := ["maps.clone", "internal/abi.NoEscape"], unfollowed := true, recurses := true, apart := false, narrowed := true }
def EntryOwnUptoSaid : Prop := entryOwnUptoRow.holds Try.pinned (OpenSpec.upto entryOwnSpec)

/-- 'beadrolllaw11.RecordWrites', WHERE WHAT IT READS IS OF BULK AT MOST 1048576: true; the input reads as it did. -/
def recordWritesUptoRow : OpenClaim := { program := "ytofkjgialkdidaa", sum := "b3a53dc219cbc25e0ad45b9317baa2cc6e3d7fc83d1c9567aef9e3e151cd447f", func := "beadroll/beadrolllaw11.RecordWrites", spec := "recordWrites", inPlace := ["internal/abi.NoEscape", "maps.clone"], unfollowed := true, recurses := true, apart := false, narrowed := true }
def RecordWritesUptoSaid : Prop := recordWritesUptoRow.holds Try.pinned (OpenSpec.upto recordWritesSpec)

end Rows
end Go.Proofs.Ytofkjgialkdidaa
