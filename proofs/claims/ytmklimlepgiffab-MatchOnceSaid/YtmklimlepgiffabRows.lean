/-
  NARROWER THAN 'FOR EVERY INPUT', by the rows' own cells (each row's printed sentence says how): TreeTells: loops · DenoteTells: loops · DenoteTwice: loops.
  DERIVED. THE GIVEN ROWS OF THIS SEAT. 12 by the template 'for every input the law returns true; each argument reads behind the call as it read before'; 0 by the template 'total and deterministic' (their statements: YtmklimlepgiffabTotals.lean).
  GIVEN WITH THE SEED: the statements are not yours to turn. If you find one false, say at which input.
  Laid BY PROGRAM, IN A SANDBOX (cutbox-rows.mjs): the forced cells as the released guide's own fill.sh prints them over the translation ef064875b91787e5… (all of the seat's roots in one cut). By AI agents, Wed Nov 11 2026. No macro, syntax, notation, axiom, sorry.
-/
import Derived.Test.YtmklimlepgiffabChecked
import GoSem.Claim
import GoSem.ClaimJoined
import GoSem.ClaimMapViews
import Derived.JoinedTies
import Derived.KernelRfl
namespace Go.Proofs.Ytmklimlepgiffab
/- THE CELL 'sum', in the pinned program and in every row, IS THE sha256 OF THE DUMP (.gsa) THAT YtmklimlepgiffabProg.lean LOADS. Nothing in Lean hashes anything: it is a label: what it is worth is what the hold of that sum in a sandbox is worth. -/
noncomputable def Try.pinned : Pinned := { name := "ytmklimlepgiffab", sum := "ef064875b91787e58f52a26c0381e1156f3989ced3bebf3c6d97d02f8fed17ee", checked := Try.checked }
namespace Rows
def none {H : Type} : Left H := { results := [], args := [] }

/-- 'placketlaw12.CodeGets': WHATEVER THE INPUT: true; the input reads as it did. -/
def codeGetsSpec : ChangeSpec := { name := "codeGets", fn := fun _ => fun
  | [d] => { results := [.lit (.bool true)], args := [d] }
  | _ => none }
def codeGetsRow : OpenClaim := { program := "ytmklimlepgiffab", sum := "ef064875b91787e58f52a26c0381e1156f3989ced3bebf3c6d97d02f8fed17ee", func := "placket/placketlaw12.CodeGets", spec := "codeGets", apart := false }
def CodeGetsSaid : Prop := codeGetsRow.holds Try.pinned (OpenSpec.ofChange codeGetsSpec)

/-- ITS FALSE NEIGHBOUR: 'it returns false'. Refute it at one input. -/
def codeGetsWrong : ChangeSpec := { name := "codeGets", fn := fun _ => fun
  | [d] => { results := [.lit (.bool false)], args := [d] }
  | _ => none }
def CodeGetsWrongFalsely : Prop := codeGetsRow.holds Try.pinned (OpenSpec.ofChange codeGetsWrong)

/-- 'placketlaw12.CodeBack': WHATEVER THE INPUT: true; the input reads as it did. -/
def codeBackSpec : ChangeSpec := { name := "codeBack", fn := fun _ => fun
  | [d1, d2, d3] => { results := [.lit (.bool true)], args := [d1, d2, d3] }
  | _ => none }
def codeBackRow : OpenClaim := { program := "ytmklimlepgiffab", sum := "ef064875b91787e58f52a26c0381e1156f3989ced3bebf3c6d97d02f8fed17ee", func := "placket/placketlaw12.CodeBack", spec := "codeBack", apart := false }
def CodeBackSaid : Prop := codeBackRow.holds Try.pinned (OpenSpec.ofChange codeBackSpec)

/-- ITS FALSE NEIGHBOUR: 'it returns false'. Refute it at one input. -/
def codeBackWrong : ChangeSpec := { name := "codeBack", fn := fun _ => fun
  | [d1, d2, d3] => { results := [.lit (.bool false)], args := [d1, d2, d3] }
  | _ => none }
def CodeBackWrongFalsely : Prop := codeBackRow.holds Try.pinned (OpenSpec.ofChange codeBackWrong)

/-- 'placketlaw13.ValidTells': WHATEVER THE INPUT: true; the input reads as it did. -/
def validTellsSpec : ChangeSpec := { name := "validTells", fn := fun _ => fun
  | [d] => { results := [.lit (.bool true)], args := [d] }
  | _ => none }
def validTellsRow : OpenClaim := { program := "ytmklimlepgiffab", sum := "ef064875b91787e58f52a26c0381e1156f3989ced3bebf3c6d97d02f8fed17ee", func := "placket/placketlaw13.ValidTells", spec := "validTells", apart := false }
def ValidTellsSaid : Prop := validTellsRow.holds Try.pinned (OpenSpec.ofChange validTellsSpec)

/-- ITS FALSE NEIGHBOUR: 'it returns false'. Refute it at one input. -/
def validTellsWrong : ChangeSpec := { name := "validTells", fn := fun _ => fun
  | [d] => { results := [.lit (.bool false)], args := [d] }
  | _ => none }
def ValidTellsWrongFalsely : Prop := validTellsRow.holds Try.pinned (OpenSpec.ofChange validTellsWrong)

/-- 'placketlaw08.TreeTells': WHATEVER THE INPUT: true; the input reads as it did. -/
def treeTellsSpec : ChangeSpec := { name := "treeTells", fn := fun _ => fun
  | [d1, d2] => { results := [.lit (.bool true)], args := [d1, d2] }
  | _ => none }
def treeTellsRow : OpenClaim := { program := "ytmklimlepgiffab", sum := "ef064875b91787e58f52a26c0381e1156f3989ced3bebf3c6d97d02f8fed17ee", func := "placket/placketlaw08.TreeTells", spec := "treeTells", unfollowed := true, recurses := true, loops := true, apart := false }
def TreeTellsSaid : Prop := treeTellsRow.holds Try.pinned (OpenSpec.ofChange treeTellsSpec)

/-- ITS FALSE NEIGHBOUR: 'it returns false'. Refute it at one input. -/
def treeTellsWrong : ChangeSpec := { name := "treeTells", fn := fun _ => fun
  | [d1, d2] => { results := [.lit (.bool false)], args := [d1, d2] }
  | _ => none }
def TreeTellsWrongFalsely : Prop := treeTellsRow.holds Try.pinned (OpenSpec.ofChange treeTellsWrong)

/-- 'placketlaw18.BoundTells': WHATEVER THE INPUT: true; the input reads as it did. -/
def boundTellsSpec : ChangeSpec := { name := "boundTells", fn := fun _ => fun
  | [d1, d2] => { results := [.lit (.bool true)], args := [d1, d2] }
  | _ => none }
def boundTellsRow : OpenClaim := { program := "ytmklimlepgiffab", sum := "ef064875b91787e58f52a26c0381e1156f3989ced3bebf3c6d97d02f8fed17ee", func := "placket/placketlaw18.BoundTells", spec := "boundTells", recurses := true, apart := false }
def BoundTellsSaid : Prop := boundTellsRow.holds Try.pinned (OpenSpec.ofChange boundTellsSpec)

/-- ITS FALSE NEIGHBOUR: 'it returns false'. Refute it at one input. -/
def boundTellsWrong : ChangeSpec := { name := "boundTells", fn := fun _ => fun
  | [d1, d2] => { results := [.lit (.bool false)], args := [d1, d2] }
  | _ => none }
def BoundTellsWrongFalsely : Prop := boundTellsRow.holds Try.pinned (OpenSpec.ofChange boundTellsWrong)

/-- 'placketlaw18.BoundMore': WHATEVER THE INPUT: true; the input reads as it did. -/
def boundMoreSpec : ChangeSpec := { name := "boundMore", fn := fun _ => fun
  | [d1, d2, d3] => { results := [.lit (.bool true)], args := [d1, d2, d3] }
  | _ => none }
def boundMoreRow : OpenClaim := { program := "ytmklimlepgiffab", sum := "ef064875b91787e58f52a26c0381e1156f3989ced3bebf3c6d97d02f8fed17ee", func := "placket/placketlaw18.BoundMore", spec := "boundMore", recurses := true, apart := false }
def BoundMoreSaid : Prop := boundMoreRow.holds Try.pinned (OpenSpec.ofChange boundMoreSpec)

/-- ITS FALSE NEIGHBOUR: 'it returns false'. Refute it at one input. -/
def boundMoreWrong : ChangeSpec := { name := "boundMore", fn := fun _ => fun
  | [d1, d2, d3] => { results := [.lit (.bool false)], args := [d1, d2, d3] }
  | _ => none }
def BoundMoreWrongFalsely : Prop := boundMoreRow.holds Try.pinned (OpenSpec.ofChange boundMoreWrong)

/-- 'placketlaw14.WishTells': WHATEVER THE INPUT: true; the input reads as it did. -/
def wishTellsSpec : ChangeSpec := { name := "wishTells", fn := fun _ => fun
  | [d1, d2] => { results := [.lit (.bool true)], args := [d1, d2] }
  | _ => none }
def wishTellsRow : OpenClaim := { program := "ytmklimlepgiffab", sum := "ef064875b91787e58f52a26c0381e1156f3989ced3bebf3c6d97d02f8fed17ee", func := "placket/placketlaw14.WishTells", spec := "wishTells", unfollowed := true, recurses := true, apart := false }
def WishTellsSaid : Prop := wishTellsRow.holds Try.pinned (OpenSpec.ofChange wishTellsSpec)

/-- ITS FALSE NEIGHBOUR: 'it returns false'. Refute it at one input. -/
def wishTellsWrong : ChangeSpec := { name := "wishTells", fn := fun _ => fun
  | [d1, d2] => { results := [.lit (.bool false)], args := [d1, d2] }
  | _ => none }
def WishTellsWrongFalsely : Prop := wishTellsRow.holds Try.pinned (OpenSpec.ofChange wishTellsWrong)

/-- 'placketlaw16.MatchTells': WHATEVER THE INPUT: true; the input reads as it did. -/
def matchTellsSpec : ChangeSpec := { name := "matchTells", fn := fun _ => fun
  | [d1, d2] => { results := [.lit (.bool true)], args := [d1, d2] }
  | _ => none }
def matchTellsRow : OpenClaim := { program := "ytmklimlepgiffab", sum := "ef064875b91787e58f52a26c0381e1156f3989ced3bebf3c6d97d02f8fed17ee", func := "placket/placketlaw16.MatchTells", spec := "matchTells", unfollowed := true, recurses := true, apart := false }
def MatchTellsSaid : Prop := matchTellsRow.holds Try.pinned (OpenSpec.ofChange matchTellsSpec)

/-- ITS FALSE NEIGHBOUR: 'it returns false'. Refute it at one input. -/
def matchTellsWrong : ChangeSpec := { name := "matchTells", fn := fun _ => fun
  | [d1, d2] => { results := [.lit (.bool false)], args := [d1, d2] }
  | _ => none }
def MatchTellsWrongFalsely : Prop := matchTellsRow.holds Try.pinned (OpenSpec.ofChange matchTellsWrong)

/-- 'placketlaw16.MatchOnce': WHATEVER THE INPUT: true; the input reads as it did. -/
def matchOnceSpec : ChangeSpec := { name := "matchOnce", fn := fun _ => fun
  | [d1, d2] => { results := [.lit (.bool true)], args := [d1, d2] }
  | _ => none }
def matchOnceRow : OpenClaim := { program := "ytmklimlepgiffab", sum := "ef064875b91787e58f52a26c0381e1156f3989ced3bebf3c6d97d02f8fed17ee", func := "placket/placketlaw16.MatchOnce", spec := "matchOnce", unfollowed := true, recurses := true, apart := false }
def MatchOnceSaid : Prop := matchOnceRow.holds Try.pinned (OpenSpec.ofChange matchOnceSpec)

/-- ITS FALSE NEIGHBOUR: 'it returns false'. Refute it at one input. -/
def matchOnceWrong : ChangeSpec := { name := "matchOnce", fn := fun _ => fun
  | [d1, d2] => { results := [.lit (.bool false)], args := [d1, d2] }
  | _ => none }
def MatchOnceWrongFalsely : Prop := matchOnceRow.holds Try.pinned (OpenSpec.ofChange matchOnceWrong)

/-- 'placketlaw14.WishBack': WHATEVER THE INPUT: true; the input reads as it did. -/
def wishBackSpec : ChangeSpec := { name := "wishBack", fn := fun _ => fun
  | [d] => { results := [.lit (.bool true)], args := [d] }
  | _ => none }
def wishBackRow : OpenClaim := { program := "ytmklimlepgiffab", sum := "ef064875b91787e58f52a26c0381e1156f3989ced3bebf3c6d97d02f8fed17ee", func := "placket/placketlaw14.WishBack", spec := "wishBack", unfollowed := true, recurses := true, apart := false }
def WishBackSaid : Prop := wishBackRow.holds Try.pinned (OpenSpec.ofChange wishBackSpec)

/-- ITS FALSE NEIGHBOUR: 'it returns false'. Refute it at one input. -/
def wishBackWrong : ChangeSpec := { name := "wishBack", fn := fun _ => fun
  | [d] => { results := [.lit (.bool false)], args := [d] }
  | _ => none }
def WishBackWrongFalsely : Prop := wishBackRow.holds Try.pinned (OpenSpec.ofChange wishBackWrong)

/-- 'placketlaw17.DenoteTells': WHATEVER THE INPUT: true; the input reads as it did. -/
def denoteTellsSpec : ChangeSpec := { name := "denoteTells", fn := fun _ => fun
  | [d1, d2] => { results := [.lit (.bool true)], args := [d1, d2] }
  | _ => none }
def denoteTellsRow : OpenClaim := { program := "ytmklimlepgiffab", sum := "ef064875b91787e58f52a26c0381e1156f3989ced3bebf3c6d97d02f8fed17ee", func := "placket/placketlaw17.DenoteTells", spec := "denoteTells", unfollowed := true, recurses := true, loops := true, apart := false }
def DenoteTellsSaid : Prop := denoteTellsRow.holds Try.pinned (OpenSpec.ofChange denoteTellsSpec)

/-- ITS FALSE NEIGHBOUR: 'it returns false'. Refute it at one input. -/
def denoteTellsWrong : ChangeSpec := { name := "denoteTells", fn := fun _ => fun
  | [d1, d2] => { results := [.lit (.bool false)], args := [d1, d2] }
  | _ => none }
def DenoteTellsWrongFalsely : Prop := denoteTellsRow.holds Try.pinned (OpenSpec.ofChange denoteTellsWrong)

/-- 'placketlaw17.DenoteTwice': WHATEVER THE INPUT: true; the input reads as it did. -/
def denoteTwiceSpec : ChangeSpec := { name := "denoteTwice", fn := fun _ => fun
  | [d1, d2] => { results := [.lit (.bool true)], args := [d1, d2] }
  | _ => none }
def denoteTwiceRow : OpenClaim := { program := "ytmklimlepgiffab", sum := "ef064875b91787e58f52a26c0381e1156f3989ced3bebf3c6d97d02f8fed17ee", func := "placket/placketlaw17.DenoteTwice", spec := "denoteTwice", unfollowed := true, recurses := true, loops := true, apart := false }
def DenoteTwiceSaid : Prop := denoteTwiceRow.holds Try.pinned (OpenSpec.ofChange denoteTwiceSpec)

/-- ITS FALSE NEIGHBOUR: 'it returns false'. Refute it at one input. -/
def denoteTwiceWrong : ChangeSpec := { name := "denoteTwice", fn := fun _ => fun
  | [d1, d2] => { results := [.lit (.bool false)], args := [d1, d2] }
  | _ => none }
def DenoteTwiceWrongFalsely : Prop := denoteTwiceRow.holds Try.pinned (OpenSpec.ofChange denoteTwiceWrong)

/- THE SECOND FORM. 'bulk': how many values and letters a reading holds, each counted each time it is reached (what is shared counts as often as it is met; a slice's spare places count too). A statement '..UptoSaid' is the law's where the arguments, and the package variables that the reading takes, are together of bulk at most 1048576: NARROWER than '..Said'. Prove '..Said' where nothing that the law and all that it calls make is longer than what came in: it says more and counts as full. Else prove '..UptoSaid'. A law counts once. -/
mutual
def uptoBulk {H : Type} : DataW H → Nat
  | .lit (.string bytes) => bytes.length + 1
  | .lit _ => 1
  | .nil => 1
  | .ptr d => uptoBulk d + 1
  | .slice elems spare => uptoBulkAll elems + uptoBulkAll spare + 1
  | .agg parts => uptoBulkAll parts + 1
  | .iface _ d => uptoBulk d + 1
  | .map entries => uptoBulkEntries entries + 1
  | .held _ => 1
def uptoBulkAll {H : Type} : List (DataW H) → Nat
  | [] => 0
  | d :: r => uptoBulk d + uptoBulkAll r
def uptoBulkEntries {H : Type} : List (Lit × DataW H) → Nat
  | [] => 0
  | x :: r => uptoBulkEntry x + uptoBulkEntries r
def uptoBulkEntry {H : Type} : Lit × DataW H → Nat
  | (.string bytes, d) => bytes.length + uptoBulk d + 1
  | (_, d) => uptoBulk d + 1
 end
def uptoSmall : (H : Type) → List (DataW H) → Bool := fun _ ds => decide (uptoBulkAll ds ≤ 1048576)
def OpenSpec.upto (s : _root_.Go.ChangeSpec) : _root_.Go.OpenSpec := { _root_.Go.OpenSpec.ofChange s with cond := some uptoSmall }

/-- 'placketlaw12.CodeGets', WHERE WHAT IT READS IS OF BULK AT MOST 1048576: true; the input reads as it did. -/
def codeGetsUptoRow : OpenClaim := { program := "ytmklimlepgiffab", sum := "ef064875b91787e58f52a26c0381e1156f3989ced3bebf3c6d97d02f8fed17ee", func := "placket/placketlaw12.CodeGets", spec := "codeGets", apart := false, narrowed := true }
def CodeGetsUptoSaid : Prop := codeGetsUptoRow.holds Try.pinned (OpenSpec.upto codeGetsSpec)

/-- 'placketlaw12.CodeBack', WHERE WHAT IT READS IS OF BULK AT MOST 1048576: true; the input reads as it did. -/
def codeBackUptoRow : OpenClaim := { program := "ytmklimlepgiffab", sum := "ef064875b91787e58f52a26c0381e1156f3989ced3bebf3c6d97d02f8fed17ee", func := "placket/placketlaw12.CodeBack", spec := "codeBack", apart := false, narrowed := true }
def CodeBackUptoSaid : Prop := codeBackUptoRow.holds Try.pinned (OpenSpec.upto codeBackSpec)

/-- 'placketlaw13.ValidTells', WHERE WHAT IT READS IS OF BULK AT MOST 1048576: true; the input reads as it did. -/
def validTellsUptoRow : OpenClaim := { program := "ytmklimlepgiffab", sum := "ef064875b91787e58f52a26c0381e1156f3989ced3bebf3c6d97d02f8fed17ee", func := "placket/placketlaw13.ValidTells", spec := "validTells", apart := false, narrowed := true }
def ValidTellsUptoSaid : Prop := validTellsUptoRow.holds Try.pinned (OpenSpec.upto validTellsSpec)

/-- 'placketlaw08.TreeTells', WHERE WHAT IT READS IS OF BULK AT MOST 1048576: true; the input reads as it did. -/
def treeTellsUptoRow : OpenClaim := { program := "ytmklimlepgiffab", sum := "ef064875b91787e58f52a26c0381e1156f3989ced3bebf3c6d97d02f8fed17ee", func := "placket/placketlaw08.TreeTells", spec := "treeTells", unfollowed := true, recurses := true, loops := true, apart := false, narrowed := true }
def TreeTellsUptoSaid : Prop := treeTellsUptoRow.holds Try.pinned (OpenSpec.upto treeTellsSpec)

/-- 'placketlaw18.BoundTells', WHERE WHAT IT READS IS OF BULK AT MOST 1048576: true; the input reads as it did. -/
def boundTellsUptoRow : OpenClaim := { program := "ytmklimlepgiffab", sum := "ef064875b91787e58f52a26c0381e1156f3989ced3bebf3c6d97d02f8fed17ee", func := "placket/placketlaw18.BoundTells", spec := "boundTells", recurses := true, apart := false, narrowed := true }
def BoundTellsUptoSaid : Prop := boundTellsUptoRow.holds Try.pinned (OpenSpec.upto boundTellsSpec)

/-- 'placketlaw18.BoundMore', WHERE WHAT IT READS IS OF BULK AT MOST 1048576: true; the input reads as it did. -/
def boundMoreUptoRow : OpenClaim := { program := "ytmklimlepgiffab", sum := "ef064875b91787e58f52a26c0381e1156f3989ced3bebf3c6d97d02f8fed17ee", func := "placket/placketlaw18.BoundMore", spec := "boundMore", recurses := true, apart := false, narrowed := true }
def BoundMoreUptoSaid : Prop := boundMoreUptoRow.holds Try.pinned (OpenSpec.upto boundMoreSpec)

/-- 'placketlaw14.WishTells', WHERE WHAT IT READS IS OF BULK AT MOST 1048576: true; the input reads as it did. -/
def wishTellsUptoRow : OpenClaim := { program := "ytmklimlepgiffab", sum := "ef064875b91787e58f52a26c0381e1156f3989ced3bebf3c6d97d02f8fed17ee", func := "placket/placketlaw14.WishTells", spec := "wishTells", unfollowed := true, recurses := true, apart := false, narrowed := true }
def WishTellsUptoSaid : Prop := wishTellsUptoRow.holds Try.pinned (OpenSpec.upto wishTellsSpec)

/-- 'placketlaw16.MatchTells', WHERE WHAT IT READS IS OF BULK AT MOST 1048576: true; the input reads as it did. -/
def matchTellsUptoRow : OpenClaim := { program := "ytmklimlepgiffab", sum := "ef064875b91787e58f52a26c0381e1156f3989ced3bebf3c6d97d02f8fed17ee", func := "placket/placketlaw16.MatchTells", spec := "matchTells", unfollowed := true, recurses := true, apart := false, narrowed := true }
def MatchTellsUptoSaid : Prop := matchTellsUptoRow.holds Try.pinned (OpenSpec.upto matchTellsSpec)

/-- 'placketlaw16.MatchOnce', WHERE WHAT IT READS IS OF BULK AT MOST 1048576: true; the input reads as it did. -/
def matchOnceUptoRow : OpenClaim := { program := "ytmklimlepgiffab", sum := "ef064875b91787e58f52a26c0381e1156f3989ced3bebf3c6d97d02f8fed17ee", func := "placket/placketlaw16.MatchOnce", spec := "matchOnce", unfollowed := true, recurses := true, apart := false, narrowed := true }
def MatchOnceUptoSaid : Prop := matchOnceUptoRow.holds Try.pinned (OpenSpec.upto matchOnceSpec)

/-- 'placketlaw14.WishBack', WHERE WHAT IT READS IS OF BULK AT MOST 1048576: true; the input reads as it did. -/
def wishBackUptoRow : OpenClaim := { program := "ytmklimlepgiffab", sum := "ef064875b91787e58f52a26c0381e1156f3989ced3bebf3c6d97d02f8fed17ee", func := "placket/placketlaw14.WishBack", spec := "wishBack", unfollowed := true, recurses := true, apart := false, narrowed := true }
def WishBackUptoSaid : Prop := wishBackUptoRow.holds Try.pinned (OpenSpec.upto wishBackSpec)

/-- 'placketlaw17.DenoteTells', WHERE WHAT IT READS IS OF BULK AT MOST 1048576: true; the input reads as it did. -/
def denoteTellsUptoRow : OpenClaim := { program := "ytmklimlepgiffab", sum := "ef064875b91787e58f52a26c0381e1156f3989ced3bebf3c6d97d02f8fed17ee", func := "placket/placketlaw17.DenoteTells", spec := "denoteTells", unfollowed := true, recurses := true, loops := true, apart := false, narrowed := true }
def DenoteTellsUptoSaid : Prop := denoteTellsUptoRow.holds Try.pinned (OpenSpec.upto denoteTellsSpec)

/-- 'placketlaw17.DenoteTwice', WHERE WHAT IT READS IS OF BULK AT MOST 1048576: true; the input reads as it did. -/
def denoteTwiceUptoRow : OpenClaim := { program := "ytmklimlepgiffab", sum := "ef064875b91787e58f52a26c0381e1156f3989ced3bebf3c6d97d02f8fed17ee", func := "placket/placketlaw17.DenoteTwice", spec := "denoteTwice", unfollowed := true, recurses := true, loops := true, apart := false, narrowed := true }
def DenoteTwiceUptoSaid : Prop := denoteTwiceUptoRow.holds Try.pinned (OpenSpec.upto denoteTwiceSpec)

end Rows
end Go.Proofs.Ytmklimlepgiffab
