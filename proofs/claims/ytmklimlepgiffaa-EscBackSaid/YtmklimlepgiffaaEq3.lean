/- The functions that the statement reaches, by equations: no statement of its own. -/
import Derived.Test.YtmklimlepgiffaaEq2
import Derived.Test.YtmklimlepgiffaaProg
set_option linter.unusedVariables false
set_option linter.unusedSimpArgs false
set_option linter.unusedSectionVars false
set_option maxRecDepth 20000
namespace Go.Va.Es
open Go.Va
open Go.Proofs
def ty3 : Ty := ⟨(.int .i64), 1, 8, [.s (.int .i64 0)], 0, [], []⟩
def ty4 : Ty := ⟨.bool, 1, 1, [.s (.bool false)], 0, [], []⟩
def ty5 : Ty := ⟨(.int .u8), 1, 1, [.s (.int .u8 0)], 0, [], []⟩
def ty9 : Ty := ⟨.str, 1, 16, [.s (.string ⟨#[]⟩)], 0, [], []⟩
def ty45 : Ty := ⟨(.int .i64), 1, 8, [.s (.int .i64 0)], 0, [], []⟩
def tyT : Tr Ty := (.node 5 ty5
 (.node 4 ty4
 (.node 3 ty3
 .leaf .leaf) .leaf) (.node 45 ty45
 (.node 9 ty9
 .leaf .leaf) .leaf))
/- 82: placket/esc.first -/
def lv82 : Tr (List Nat) := (.node 5 [0, 4, 11]
 (.node 2 [2, 3]
 (.node 1 [0, 8]
 (.node 0 [0]
 .leaf .leaf) .leaf) (.node 4 [0, 11, 12]
 (.node 3 [0, 11]
 .leaf .leaf) .leaf)) (.node 8 [2, 3]
 (.node 7 [0, 4, 5, 11, 19]
 (.node 6 [0, 4, 5, 11]
 .leaf .leaf) .leaf) (.node 10 [2, 3]
 (.node 9 [0, 11]
 .leaf .leaf) .leaf)))
def lvF82 (r : Nat) : List Nat := getL lv82 r
noncomputable def bd82 : Code := (Try.f82.body).getD .skip
/- 86: placket/esc.plain -/
def lv86 : Tr (List Nat) := (.node 1 [2]
 (.node 0 [0]
 .leaf .leaf) .leaf)
def lvF86 (r : Nat) : List Nat := getL lv86 r
noncomputable def bd86 : Code := (Try.f86.body).getD .skip
/- 88: placket/esc.word -/
def lv88 : Tr (List Nat) := (.node 4 [3, 6]
 (.node 2 [3, 4]
 (.node 1 [3]
 (.node 0 [0]
 .leaf .leaf) .leaf) (.node 3 [2]
 .leaf .leaf)) (.node 7 [2]
 (.node 6 [8]
 (.node 5 [2]
 .leaf .leaf) .leaf) (.node 8 [2]
 .leaf .leaf)))
def lvF88 (r : Nat) : List Nat := getL lv88 r
noncomputable def bd88 : Code := (Try.f88.body).getD .skip
/- 100: strings.HasPrefix -/
def lv100 : Tr (List Nat) := (.node 1 [4]
 (.node 0 [0, 1]
 .leaf .leaf) .leaf)
def lvF100 (r : Nat) : List Nat := getL lv100 r
noncomputable def bd100 : Code := (Try.f100.body).getD .skip
/- 102: strings.IndexByte -/
def lv102 : Tr (List Nat) := (.node 1 [4]
 (.node 0 [0, 1]
 .leaf .leaf) .leaf)
def lvF102 (r : Nat) : List Nat := getL lv102 r
noncomputable def bd102 : Code := (Try.f102.body).getD .skip
/- 109: internal/stringslite.HasPrefix -/
def lv109 : Tr (List Nat) := (.node 1 [4]
 (.node 0 [0, 1]
 .leaf .leaf) .leaf)
def lvF109 (r : Nat) : List Nat := getL lv109 r
noncomputable def bd109 : Code := (Try.f109.body).getD .skip
/- 111: internal/stringslite.IndexByte -/
def lv111 : Tr (List Nat) := (.node 1 [4]
 (.node 0 [0, 1]
 .leaf .leaf) .leaf)
def lvF111 (r : Nat) : List Nat := getL lv111 r
noncomputable def bd111 : Code := (Try.f111.body).getD .skip
noncomputable def fnT : Tr Func := (.node 100 Try.f100
 (.node 86 Try.f86
 (.node 82 Try.f82
 .leaf .leaf) (.node 88 Try.f88
 .leaf .leaf)) (.node 109 Try.f109
 (.node 102 Try.f102
 .leaf .leaf) (.node 111 Try.f111
 .leaf .leaf)))
def liveT : Tr (Tr (List Nat)) := (.node 100 lv100
 (.node 86 lv86
 (.node 82 lv82
 .leaf .leaf) (.node 88 lv88
 .leaf .leaf)) (.node 109 lv109
 (.node 102 lv102
 .leaf .leaf) (.node 111 lv111
 .leaf .leaf)))
def consT : Tr (List Nat) := .leaf
def pureT : Tr Unit := .leaf
def extT : Tr (List AV → Seg → Prog) := (.node 113 xIndexByteString
 .leaf .leaf)
def liveOf (f : Nat) : Nat → List Nat := match liveT.get f with
  | some t => getL t
  | none => fun _ => []
noncomputable def fnF (f : Nat) : Option Func := fnT.get f
def tyF (t : Nat) : Option Ty := tyT.get t
def consF (f : Nat) : List Nat := getL consT f
def pureF (f : Nat) : Bool := (pureT.get f).isSome
def extF (f : Nat) : Option (List AV → Seg → Prog) := extT.get f
noncomputable def envV (A : Ar) : Env := { A := A, fn := fnF, ty := tyF, live := liveOf, cons := consF, pure := pureF, ext := extF }
end Go.Va.Es
