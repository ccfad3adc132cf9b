/-
  NARROWER THAN 'FOR EVERY INPUT', by the rows' own cells (each row's printed sentence says how): SerialTells: loops · SerialOne: loops.
  DERIVED. THE GIVEN ROWS OF THIS SEAT. 12 by the template 'for every input the law returns true; each argument reads behind the call as it read before'; 0 by the template 'total and deterministic' (their statements: YtmklimlepgiffaaTotals.lean).
  GIVEN WITH THE SEED: the statements are not yours to turn. If you find one false, say at which input.
  Laid BY PROGRAM, IN A SANDBOX (cutbox-rows.mjs): the forced cells as the released guide's own fill.sh prints them over the translation f905a38b0718b04f… (all of the seat's roots in one cut). By AI agents, Wed Nov 11 2026. No macro, syntax, notation, axiom, sorry.
-/
import Derived.Test.YtmklimlepgiffaaChecked
import GoSem.Claim
import GoSem.ClaimJoined
import GoSem.ClaimMapViews
import Derived.JoinedTies
import Derived.KernelRfl
namespace Go.Proofs.Ytmklimlepgiffaa
/- THE CELL 'sum', in the pinned program and in every row, IS THE sha256 OF THE DUMP (.gsa) THAT YtmklimlepgiffaaProg.lean LOADS. Nothing in Lean hashes anything: it is a label: what it is worth is what the hold of that sum in a sandbox is worth. -/
noncomputable def Try.pinned : Pinned := { name := "ytmklimlepgiffaa", sum := "f905a38b0718b04f6d0a4a6d413b5ca0dfd54b7035286a87d9a6c649f96c703d", checked := Try.checked }
namespace Rows
def none {H : Type} : Left H := { results := [], args := [] }

/-- 'placketlaw01.NameTells': WHATEVER THE INPUT: true; the input reads as it did. -/
def nameTellsSpec : ChangeSpec := { name := "nameTells", fn := fun _ => fun
  | [d] => { results := [.lit (.bool true)], args := [d] }
  | _ => none }
def nameTellsRow : OpenClaim := { program := "ytmklimlepgiffaa", sum := "f905a38b0718b04f6d0a4a6d413b5ca0dfd54b7035286a87d9a6c649f96c703d", func := "placket/placketlaw01.NameTells", spec := "nameTells", apart := false }
def NameTellsSaid : Prop := nameTellsRow.holds Try.pinned (OpenSpec.ofChange nameTellsSpec)

/-- ITS FALSE NEIGHBOUR: 'it returns false'. Refute it at one input. -/
def nameTellsWrong : ChangeSpec := { name := "nameTells", fn := fun _ => fun
  | [d] => { results := [.lit (.bool false)], args := [d] }
  | _ => none }
def NameTellsWrongFalsely : Prop := nameTellsRow.holds Try.pinned (OpenSpec.ofChange nameTellsWrong)

/-- 'placketlaw01.NameGrows': WHATEVER THE INPUT: true; the input reads as it did. -/
def nameGrowsSpec : ChangeSpec := { name := "nameGrows", fn := fun _ => fun
  | [d] => { results := [.lit (.bool true)], args := [d] }
  | _ => none }
def nameGrowsRow : OpenClaim := { program := "ytmklimlepgiffaa", sum := "f905a38b0718b04f6d0a4a6d413b5ca0dfd54b7035286a87d9a6c649f96c703d", func := "placket/placketlaw01.NameGrows", spec := "nameGrows", apart := false }
def NameGrowsSaid : Prop := nameGrowsRow.holds Try.pinned (OpenSpec.ofChange nameGrowsSpec)

/-- ITS FALSE NEIGHBOUR: 'it returns false'. Refute it at one input. -/
def nameGrowsWrong : ChangeSpec := { name := "nameGrows", fn := fun _ => fun
  | [d] => { results := [.lit (.bool false)], args := [d] }
  | _ => none }
def NameGrowsWrongFalsely : Prop := nameGrowsRow.holds Try.pinned (OpenSpec.ofChange nameGrowsWrong)

/-- 'placketlaw11.InsTells': WHATEVER THE INPUT: true; the input reads as it did. -/
def insTellsSpec : ChangeSpec := { name := "insTells", fn := fun _ => fun
  | [d] => { results := [.lit (.bool true)], args := [d] }
  | _ => none }
def insTellsRow : OpenClaim := { program := "ytmklimlepgiffaa", sum := "f905a38b0718b04f6d0a4a6d413b5ca0dfd54b7035286a87d9a6c649f96c703d", func := "placket/placketlaw11.InsTells", spec := "insTells", apart := false }
def InsTellsSaid : Prop := insTellsRow.holds Try.pinned (OpenSpec.ofChange insTellsSpec)

/-- ITS FALSE NEIGHBOUR: 'it returns false'. Refute it at one input. -/
def insTellsWrong : ChangeSpec := { name := "insTells", fn := fun _ => fun
  | [d] => { results := [.lit (.bool false)], args := [d] }
  | _ => none }
def InsTellsWrongFalsely : Prop := insTellsRow.holds Try.pinned (OpenSpec.ofChange insTellsWrong)

/-- 'placketlaw04.ArenaNever': WHATEVER THE INPUT: true; the input reads as it did. -/
def arenaNeverSpec : ChangeSpec := { name := "arenaNever", fn := fun _ => fun
  | [d1, d2] => { results := [.lit (.bool true)], args := [d1, d2] }
  | _ => none }
def arenaNeverRow : OpenClaim := { program := "ytmklimlepgiffaa", sum := "f905a38b0718b04f6d0a4a6d413b5ca0dfd54b7035286a87d9a6c649f96c703d", func := "placket/placketlaw04.ArenaNever", spec := "arenaNever", inPlace := ["sync/atomic.AddInt64", "sync/atomic.LoadInt64"], apart := false }
def ArenaNeverSaid : Prop := arenaNeverRow.holds Try.pinned (OpenSpec.ofChange arenaNeverSpec)

/-- ITS FALSE NEIGHBOUR: 'it returns false'. Refute it at one input. -/
def arenaNeverWrong : ChangeSpec := { name := "arenaNever", fn := fun _ => fun
  | [d1, d2] => { results := [.lit (.bool false)], args := [d1, d2] }
  | _ => none }
def ArenaNeverWrongFalsely : Prop := arenaNeverRow.holds Try.pinned (OpenSpec.ofChange arenaNeverWrong)

/-- 'placketlaw04.ArenaPlays': WHATEVER THE INPUT: true; the input reads as it did. -/
def arenaPlaysSpec : ChangeSpec := { name := "arenaPlays", fn := fun _ => fun
  | [d1, d2] => { results := [.lit (.bool true)], args := [d1, d2] }
  | _ => none }
def arenaPlaysRow : OpenClaim := { program := "ytmklimlepgiffaa", sum := "f905a38b0718b04f6d0a4a6d413b5ca0dfd54b7035286a87d9a6c649f96c703d", func := "placket/placketlaw04.ArenaPlays", spec := "arenaPlays", inPlace := ["sync/atomic.AddInt64", "sync/atomic.LoadInt64", "sync/atomic.StoreInt64"], apart := false }
def ArenaPlaysSaid : Prop := arenaPlaysRow.holds Try.pinned (OpenSpec.ofChange arenaPlaysSpec)

/-- ITS FALSE NEIGHBOUR: 'it returns false'. Refute it at one input. -/
def arenaPlaysWrong : ChangeSpec := { name := "arenaPlays", fn := fun _ => fun
  | [d1, d2] => { results := [.lit (.bool false)], args := [d1, d2] }
  | _ => none }
def ArenaPlaysWrongFalsely : Prop := arenaPlaysRow.holds Try.pinned (OpenSpec.ofChange arenaPlaysWrong)

/-- 'placketlaw02.EscTells': WHATEVER THE INPUT: true; the input reads as it did. -/
def escTellsSpec : ChangeSpec := { name := "escTells", fn := fun _ => fun
  | [d] => { results := [.lit (.bool true)], args := [d] }
  | _ => none }
def escTellsRow : OpenClaim := { program := "ytmklimlepgiffaa", sum := "f905a38b0718b04f6d0a4a6d413b5ca0dfd54b7035286a87d9a6c649f96c703d", func := "placket/placketlaw02.EscTells", spec := "escTells", inPlace := ["internal/bytealg.IndexByteString", "internal/abi.NoEscape"], apart := false }
def EscTellsSaid : Prop := escTellsRow.holds Try.pinned (OpenSpec.ofChange escTellsSpec)

/-- ITS FALSE NEIGHBOUR: 'it returns false'. Refute it at one input. -/
def escTellsWrong : ChangeSpec := { name := "escTells", fn := fun _ => fun
  | [d] => { results := [.lit (.bool false)], args := [d] }
  | _ => none }
def EscTellsWrongFalsely : Prop := escTellsRow.holds Try.pinned (OpenSpec.ofChange escTellsWrong)

/-- 'placketlaw02.EscBack': WHATEVER THE INPUT: true; the input reads as it did. -/
def escBackSpec : ChangeSpec := { name := "escBack", fn := fun _ => fun
  | [d1, d2] => { results := [.lit (.bool true)], args := [d1, d2] }
  | _ => none }
def escBackRow : OpenClaim := { program := "ytmklimlepgiffaa", sum := "f905a38b0718b04f6d0a4a6d413b5ca0dfd54b7035286a87d9a6c649f96c703d", func := "placket/placketlaw02.EscBack", spec := "escBack", inPlace := ["internal/bytealg.IndexByteString", "internal/abi.NoEscape"], apart := false }
def EscBackSaid : Prop := escBackRow.holds Try.pinned (OpenSpec.ofChange escBackSpec)

/-- ITS FALSE NEIGHBOUR: 'it returns false'. Refute it at one input. -/
def escBackWrong : ChangeSpec := { name := "escBack", fn := fun _ => fun
  | [d1, d2] => { results := [.lit (.bool false)], args := [d1, d2] }
  | _ => none }
def EscBackWrongFalsely : Prop := escBackRow.holds Try.pinned (OpenSpec.ofChange escBackWrong)

/-- 'placketlaw09.SerialTells': WHATEVER THE INPUT: true; the input reads as it did. -/
def serialTellsSpec : ChangeSpec := { name := "serialTells", fn := fun _ => fun
  | [d1, d2] => { results := [.lit (.bool true)], args := [d1, d2] }
  | _ => none }
def serialTellsRow : OpenClaim := { program := "ytmklimlepgiffaa", sum := "f905a38b0718b04f6d0a4a6d413b5ca0dfd54b7035286a87d9a6c649f96c703d", func := "placket/placketlaw09.SerialTells", spec := "serialTells", inPlace := ["internal/bytealg.IndexByteString", "internal/abi.NoEscape"], recurses := true, loops := true, apart := false }
def SerialTellsSaid : Prop := serialTellsRow.holds Try.pinned (OpenSpec.ofChange serialTellsSpec)

/-- ITS FALSE NEIGHBOUR: 'it returns false'. Refute it at one input. -/
def serialTellsWrong : ChangeSpec := { name := "serialTells", fn := fun _ => fun
  | [d1, d2] => { results := [.lit (.bool false)], args := [d1, d2] }
  | _ => none }
def SerialTellsWrongFalsely : Prop := serialTellsRow.holds Try.pinned (OpenSpec.ofChange serialTellsWrong)

/-- 'placketlaw09.SerialOne': WHATEVER THE INPUT: true; the input reads as it did. -/
def serialOneSpec : ChangeSpec := { name := "serialOne", fn := fun _ => fun
  | [d1, d2] => { results := [.lit (.bool true)], args := [d1, d2] }
  | _ => none }
def serialOneRow : OpenClaim := { program := "ytmklimlepgiffaa", sum := "f905a38b0718b04f6d0a4a6d413b5ca0dfd54b7035286a87d9a6c649f96c703d", func := "placket/placketlaw09.SerialOne", spec := "serialOne", inPlace := ["internal/bytealg.IndexByteString", "internal/abi.NoEscape"], recurses := true, loops := true, apart := false }
def SerialOneSaid : Prop := serialOneRow.holds Try.pinned (OpenSpec.ofChange serialOneSpec)

/-- ITS FALSE NEIGHBOUR: 'it returns false'. Refute it at one input. -/
def serialOneWrong : ChangeSpec := { name := "serialOne", fn := fun _ => fun
  | [d1, d2] => { results := [.lit (.bool false)], args := [d1, d2] }
  | _ => none }
def SerialOneWrongFalsely : Prop := serialOneRow.holds Try.pinned (OpenSpec.ofChange serialOneWrong)

/-- 'placketlaw03.AttrTells': WHATEVER THE INPUT: true; the input reads as it did. -/
def attrTellsSpec : ChangeSpec := { name := "attrTells", fn := fun _ => fun
  | [d1, d2, d3] => { results := [.lit (.bool true)], args := [d1, d2, d3] }
  | _ => none }
def attrTellsRow : OpenClaim := { program := "ytmklimlepgiffaa", sum := "f905a38b0718b04f6d0a4a6d413b5ca0dfd54b7035286a87d9a6c649f96c703d", func := "placket/placketlaw03.AttrTells", spec := "attrTells", unfollowed := true, recurses := true, apart := false }
def AttrTellsSaid : Prop := attrTellsRow.holds Try.pinned (OpenSpec.ofChange attrTellsSpec)

/-- ITS FALSE NEIGHBOUR: 'it returns false'. Refute it at one input. -/
def attrTellsWrong : ChangeSpec := { name := "attrTells", fn := fun _ => fun
  | [d1, d2, d3] => { results := [.lit (.bool false)], args := [d1, d2, d3] }
  | _ => none }
def AttrTellsWrongFalsely : Prop := attrTellsRow.holds Try.pinned (OpenSpec.ofChange attrTellsWrong)

/-- 'placketlaw03.AttrJoins': WHATEVER THE INPUT: true; the input reads as it did. -/
def attrJoinsSpec : ChangeSpec := { name := "attrJoins", fn := fun _ => fun
  | [d1, d2] => { results := [.lit (.bool true)], args := [d1, d2] }
  | _ => none }
def attrJoinsRow : OpenClaim := { program := "ytmklimlepgiffaa", sum := "f905a38b0718b04f6d0a4a6d413b5ca0dfd54b7035286a87d9a6c649f96c703d", func := "placket/placketlaw03.AttrJoins", spec := "attrJoins", unfollowed := true, recurses := true, apart := false }
def AttrJoinsSaid : Prop := attrJoinsRow.holds Try.pinned (OpenSpec.ofChange attrJoinsSpec)

/-- ITS FALSE NEIGHBOUR: 'it returns false'. Refute it at one input. -/
def attrJoinsWrong : ChangeSpec := { name := "attrJoins", fn := fun _ => fun
  | [d1, d2] => { results := [.lit (.bool false)], args := [d1, d2] }
  | _ => none }
def AttrJoinsWrongFalsely : Prop := attrJoinsRow.holds Try.pinned (OpenSpec.ofChange attrJoinsWrong)

/-- 'placketlaw12.CodePuts': WHATEVER THE INPUT: true; the input reads as it did. -/
def codePutsSpec : ChangeSpec := { name := "codePuts", fn := fun _ => fun
  | [d] => { results := [.lit (.bool true)], args := [d] }
  | _ => none }
def codePutsRow : OpenClaim := { program := "ytmklimlepgiffaa", sum := "f905a38b0718b04f6d0a4a6d413b5ca0dfd54b7035286a87d9a6c649f96c703d", func := "placket/placketlaw12.CodePuts", spec := "codePuts", apart := false }
def CodePutsSaid : Prop := codePutsRow.holds Try.pinned (OpenSpec.ofChange codePutsSpec)

/-- ITS FALSE NEIGHBOUR: 'it returns false'. Refute it at one input. -/
def codePutsWrong : ChangeSpec := { name := "codePuts", fn := fun _ => fun
  | [d] => { results := [.lit (.bool false)], args := [d] }
  | _ => none }
def CodePutsWrongFalsely : Prop := codePutsRow.holds Try.pinned (OpenSpec.ofChange codePutsWrong)

/- THE SECOND FORM. 'bulk': how many values and letters a reading holds, each counted each time it is reached (what is shared counts as often as it is met; a slice's spare places count too). A statement '..UptoSaid' is the law's where the arguments, and the package variables that the reading takes, are together of bulk at most 1048576: NARROWER than '..Said'. Prove '..Said' where nothing that the law and all that it calls make is longer than what came in: it says more and counts as full. Else prove '..UptoSaid'. A law counts once. -/
mutual
def uptoBulk {H : Type} : DataW H → Nat
  | .lit (.string bytes) => bytes.length + 1
  | .lit _ => 1
  | .nil => 1
  | .ptr d => uptoBulk d + 1
  | .slice elems spare => uptoBulkAll elems + uptoBulkAll spare + 1
  | .agg parts => uptoBulkAll parts + 1
  | .iface _ d => uptoBulk d + 1
  | .map entries => uptoBulkEntries entries + 1
  | .held _ => 1
def uptoBulkAll {H : Type} : List (DataW H) → Nat
  | [] => 0
  | d :: r => uptoBulk d + uptoBulkAll r
def uptoBulkEntries {H : Type} : List (Lit × DataW H) → Nat
  | [] => 0
  | x :: r => uptoBulkEntry x + uptoBulkEntries r
def uptoBulkEntry {H : Type} : Lit × DataW H → Nat
  | (.string bytes, d) => bytes.length + uptoBulk d + 1
  | (_, d) => uptoBulk d + 1
 end
def uptoSmall : (H : Type) → List (DataW H) → Bool := fun _ ds => decide (uptoBulkAll ds ≤ 1048576)
def OpenSpec.upto (s : _root_.Go.ChangeSpec) : _root_.Go.OpenSpec := { _root_.Go.OpenSpec.ofChange s with cond := some uptoSmall }

/-- 'placketlaw01.NameTells', WHERE WHAT IT READS IS OF BULK AT MOST 1048576: true; the input reads as it did. -/
def nameTellsUptoRow : OpenClaim := { program := "ytmklimlepgiffaa", sum := "f905a38b0718b04f6d0a4a6d413b5ca0dfd54b7035286a87d9a6c649f96c703d", func := "placket/placketlaw01.NameTells", spec := "nameTells", apart := false, narrowed := true }
def NameTellsUptoSaid : Prop := nameTellsUptoRow.holds Try.pinned (OpenSpec.upto nameTellsSpec)

/-- 'placketlaw01.NameGrows', WHERE WHAT IT READS IS OF BULK AT MOST 1048576: true; the input reads as it did. -/
def nameGrowsUptoRow : OpenClaim := { program := "ytmklimlepgiffaa", sum := "f905a38b0718b04f6d0a4a6d413b5ca0dfd54b7035286a87d9a6c649f96c703d", func := "placket/placketlaw01.NameGrows", spec := "nameGrows", apart := false, narrowed := true }
def NameGrowsUptoSaid : Prop := nameGrowsUptoRow.holds Try.pinned (OpenSpec.upto nameGrowsSpec)

/-- 'placketlaw11.InsTells', WHERE WHAT IT READS IS OF BULK AT MOST 1048576: true; the input reads as it did. -/
def insTellsUptoRow : OpenClaim := { program := "ytmklimlepgiffaa", sum := "f905a38b0718b04f6d0a4a6d413b5ca0dfd54b7035286a87d9a6c649f96c703d", func := "placket/placketlaw11.InsTells", spec := "insTells", apart := false, narrowed := true }
def InsTellsUptoSaid : Prop := insTellsUptoRow.holds Try.pinned (OpenSpec.upto insTellsSpec)

/-- 'placketlaw04.ArenaNever', WHERE WHAT IT READS IS OF BULK AT MOST 1048576: true; the input reads as it did. -/
def arenaNeverUptoRow : OpenClaim := { program := "ytmklimlepgiffaa", sum := "f905a38b0718b04f6d0a4a6d413b5ca0dfd54b7035286a87d9a6c649f96c703d", func := "placket/placketlaw04.ArenaNever", spec := "arenaNever", inPlace := ["sync/atomic.AddInt64", "sync/atomic.LoadInt64"], apart := false, narrowed := true }
def ArenaNeverUptoSaid : Prop := arenaNeverUptoRow.holds Try.pinned (OpenSpec.upto arenaNeverSpec)

/-- 'placketlaw04.ArenaPlays', WHERE WHAT IT READS IS OF BULK AT MOST 1048576: true; the input reads as it did. -/
def arenaPlaysUptoRow : OpenClaim := { program := "ytmklimlepgiffaa", sum := "f905a38b0718b04f6d0a4a6d413b5ca0dfd54b7035286a87d9a6c649f96c703d", func := "placket/placketlaw04.ArenaPlays", spec := "arenaPlays", inPlace := ["sync/atomic.AddInt64", "sync/atomic.LoadInt64", "sync/atomic.StoreInt64"], apart := false, narrowed := true }
def ArenaPlaysUptoSaid : Prop := arenaPlaysUptoRow.holds Try.pinned (OpenSpec.upto arenaPlaysSpec)

/-- 'placketlaw02.EscTells', WHERE WHAT IT READS IS OF BULK AT MOST 1048576: true; the input reads as it did. -/
def escTellsUptoRow : OpenClaim := { program := "ytmklimlepgiffaa", sum := "f905a38b0718b04f6d0a4a6d413b5ca0dfd54b7035286a87d9a6c649f96c703d", func := "placket/placketlaw02.EscTells", spec := "escTells", inPlace := ["internal/bytealg.IndexByteString", "internal/abi.NoEscape"], apart := false, narrowed := true }
def EscTellsUptoSaid : Prop := escTellsUptoRow.holds Try.pinned (OpenSpec.upto escTellsSpec)

/-- 'placketlaw02.EscBack', WHERE WHAT IT READS IS OF BULK AT MOST 1048576: true; the input reads as it did. -/
def escBackUptoRow : OpenClaim := { program := "ytmklimlepgiffaa", sum := "f905a38b0718b04f6d0a4a6d413b5ca0dfd54b7035286a87d9a6c649f96c703d", func := "placket/placketlaw02.EscBack", spec := "escBack", inPlace := ["internal/bytealg.IndexByteString", "internal/abi.NoEscape"], apart := false, narrowed := true }
def EscBackUptoSaid : Prop := escBackUptoRow.holds Try.pinned (OpenSpec.upto escBackSpec)

/-- 'placketlaw09.SerialTells', WHERE WHAT IT READS IS OF BULK AT MOST 1048576: true; the input reads as it did. -/
def serialTellsUptoRow : OpenClaim := { program := "ytmklimlepgiffaa", sum := "f905a38b0718b04f6d0a4a6d413b5ca0dfd54b7035286a87d9a6c649f96c703d", func := "placket/placketlaw09.SerialTells", spec := "serialTells", inPlace := ["internal/bytealg.IndexByteString", "internal/abi.NoEscape"], recurses := true, loops := true, apart := false, narrowed := true }
def SerialTellsUptoSaid : Prop := serialTellsUptoRow.holds Try.pinned (OpenSpec.upto serialTellsSpec)

/-- 'placketlaw09.SerialOne', WHERE WHAT IT READS IS OF BULK AT MOST 1048576: true; the input reads as it did. -/
def serialOneUptoRow : OpenClaim := { program := "ytmklimlepgiffaa", sum := "f905a38b0718b04f6d0a4a6d413b5ca0dfd54b7035286a87d9a6c649f96c703d", func := "placket/placketlaw09.SerialOne", spec := "serialOne", inPlace := ["internal/bytealg.IndexByteString", "internal/abi.NoEscape"], recurses := true, loops := true, apart := false, narrowed := true }
def SerialOneUptoSaid : Prop := serialOneUptoRow.holds Try.pinned (OpenSpec.upto serialOneSpec)

/-- 'placketlaw03.AttrTells', WHERE WHAT IT READS IS OF BULK AT MOST 1048576: true; the input reads as it did. -/
def attrTellsUptoRow : OpenClaim := { program := "ytmklimlepgiffaa", sum := "f905a38b0718b04f6d0a4a6d413b5ca0dfd54b7035286a87d9a6c649f96c703d", func := "placket/placketlaw03.AttrTells", spec := "attrTells", unfollowed := true, recurses := true, apart := false, narrowed := true }
def AttrTellsUptoSaid : Prop := attrTellsUptoRow.holds Try.pinned (OpenSpec.upto attrTellsSpec)

/-- 'placketlaw03.AttrJoins', WHERE WHAT IT READS IS OF BULK AT MOST 1048576: true; the input reads as it did. -/
def attrJoinsUptoRow : OpenClaim := { program := "ytmklimlepgiffaa", sum := "f905a38b0718b04f6d0a4a6d413b5ca0dfd54b7035286a87d9a6c649f96c703d", func := "placket/placketlaw03.AttrJoins", spec := "attrJoins", unfollowed := true, recurses := true, apart := false, narrowed := true }
def AttrJoinsUptoSaid : Prop := attrJoinsUptoRow.holds Try.pinned (OpenSpec.upto attrJoinsSpec)

/-- 'placketlaw12.CodePuts', WHERE WHAT IT READS IS OF BULK AT MOST 1048576: true; the input reads as it did. -/
def codePutsUptoRow : OpenClaim := { program := "ytmklimlepgiffaa", sum := "f905a38b0718b04f6d0a4a6d413b5ca0dfd54b7035286a87d9a6c649f96c703d", func := "placket/placketlaw12.CodePuts", spec := "codePuts", apart := false, narrowed := true }
def CodePutsUptoSaid : Prop := codePutsUptoRow.holds Try.pinned (OpenSpec.upto codePutsSpec)

end Rows
end Go.Proofs.Ytmklimlepgiffaa
