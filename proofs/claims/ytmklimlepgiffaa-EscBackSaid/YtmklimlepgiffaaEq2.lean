/- The functions that the statement reaches, by equations: no statement of its own. -/
import Derived.Test.YtmklimlepgiffaaEq1
import Derived.Test.YtmklimlepgiffaaProg
set_option linter.unusedVariables false
set_option linter.unusedSimpArgs false
set_option linter.unusedSectionVars false
set_option maxRecDepth 20000
namespace Go.Va
open Go.Proofs
def ty3 : Ty := ⟨(.int .i64), 1, 8, [.s (.int .i64 0)], 0, [], []⟩
def ty4 : Ty := ⟨.bool, 1, 1, [.s (.bool false)], 0, [], []⟩
def ty5 : Ty := ⟨(.int .u8), 1, 1, [.s (.int .u8 0)], 0, [], []⟩
def ty9 : Ty := ⟨.str, 1, 16, [.s (.string ⟨#[]⟩)], 0, [], []⟩
def ty45 : Ty := ⟨(.int .i64), 1, 8, [.s (.int .i64 0)], 0, [], []⟩
def ty83 : Ty := ⟨.slice, 1, 24, [.sl 1 [] .full], 5, [], []⟩
def tyT : Tr Ty := (.node 9 ty9
 (.node 4 ty4
 (.node 3 ty3
 .leaf .leaf) (.node 5 ty5
 .leaf .leaf)) (.node 83 ty83
 (.node 45 ty45
 .leaf .leaf) .leaf))
/- 8: placket/placketlaw02.EscTells -/
def lv8 : Tr (List Nat) := (.node 3 [2]
 (.node 1 [0, 3]
 (.node 0 [0]
 .leaf .leaf) (.node 2 [0, 3, 11]
 .leaf .leaf)) (.node 5 [0, 3, 4, 5, 6, 7]
 (.node 4 [0, 3, 4, 5]
 .leaf .leaf) (.node 6 [2]
 .leaf .leaf)))
def lvF8 (r : Nat) : List Nat := getL lv8 r
noncomputable def bd8 : Code := (Try.f8.body).getD .skip
/- 9: placket/placketlaw02.EscBack -/
def lv9 : Tr (List Nat) := (.node 7 [4]
 (.node 3 [4]
 (.node 1 [0, 1, 5]
 (.node 0 [0, 1]
 .leaf .leaf) (.node 2 [0, 1, 5, 18]
 .leaf .leaf)) (.node 5 [0, 1, 5, 6, 7, 8]
 (.node 4 [0, 1, 5, 6]
 .leaf .leaf) (.node 6 [5, 6, 44]
 .leaf .leaf))) (.node 11 [5, 6, 9, 66]
 (.node 9 [5, 6, 9, 48]
 (.node 8 [5, 6, 9]
 .leaf .leaf) (.node 10 [5, 6, 9]
 .leaf .leaf)) (.node 13 [4]
 (.node 12 [4]
 .leaf .leaf) .leaf)))
def lvF9 (r : Nat) : List Nat := getL lv9 r
noncomputable def bd9 : Code := (Try.f9.body).getD .skip
/- 45: placket/placketlaw02.up -/
def lv45 : Tr (List Nat) := (.node 2 [1, 2, 4]
 (.node 1 [1, 2]
 (.node 0 []
 .leaf .leaf) .leaf) (.node 3 [0]
 .leaf .leaf))
def lvF45 (r : Nat) : List Nat := getL lv45 r
noncomputable def bd45 : Code := (Try.f45.body).getD .skip
/- 47: placket/placketref01.Get -/
def lv47 : Tr (List Nat) := (.node 8 [0, 4, 5, 6, 7, 26]
 (.node 4 [0, 4, 5, 6]
 (.node 2 [0, 4, 10]
 (.node 1 [0, 4]
 (.node 0 [0]
 .leaf .leaf) .leaf) (.node 3 [0, 4, 5]
 .leaf .leaf)) (.node 6 [0, 4, 5, 6]
 (.node 5 [0, 4, 5, 6, 16]
 .leaf .leaf) (.node 7 [0, 4, 5, 6, 7]
 .leaf .leaf))) (.node 12 [0, 4, 5, 42]
 (.node 10 [0, 4, 6, 7]
 (.node 9 [0, 4, 5, 6, 7, 32]
 .leaf .leaf) (.node 11 [0, 4, 5, 6]
 .leaf .leaf)) (.node 14 [0, 4]
 (.node 13 [2, 3]
 .leaf .leaf) (.node 15 [2, 3]
 .leaf .leaf))))
def lvF47 (r : Nat) : List Nat := getL lv47 r
noncomputable def bd47 : Code := (Try.f47.body).getD .skip
/- 49: placket/placketref01.Put -/
def lv49 : Tr (List Nat) := (.node 3 [0, 3, 4, 8]
 (.node 1 [0, 3]
 (.node 0 [0]
 .leaf .leaf) (.node 2 [0, 3, 4]
 .leaf .leaf)) (.node 5 [0, 3, 4]
 (.node 4 [0, 3, 4]
 .leaf .leaf) (.node 6 [2]
 .leaf .leaf)))
def lvF49 (r : Nat) : List Nat := getL lv49 r
noncomputable def bd49 : Code := (Try.f49.body).getD .skip
/- 85: placket/placketref01.sign -/
def lv85 : Tr (List Nat) := (.node 5 [2]
 (.node 2 [0, 3, 4]
 (.node 1 [0, 3]
 (.node 0 [0]
 .leaf .leaf) .leaf) (.node 4 [0, 3, 6]
 (.node 3 [2]
 .leaf .leaf) .leaf)) (.node 8 [0, 10]
 (.node 7 [2]
 (.node 6 [0, 3, 8]
 .leaf .leaf) .leaf) (.node 10 [2]
 (.node 9 [2]
 .leaf .leaf) .leaf)))
def lvF85 (r : Nat) : List Nat := getL lv85 r
noncomputable def bd85 : Code := (Try.f85.body).getD .skip
noncomputable def fnT : Tr Func := (.node 47 Try.f47
 (.node 9 Try.f9
 (.node 8 Try.f8
 .leaf .leaf) (.node 45 Try.f45
 .leaf .leaf)) (.node 85 Try.f85
 (.node 49 Try.f49
 .leaf .leaf) .leaf))
def liveT : Tr (Tr (List Nat)) := (.node 47 lv47
 (.node 9 lv9
 (.node 8 lv8
 .leaf .leaf) (.node 45 lv45
 .leaf .leaf)) (.node 85 lv85
 (.node 49 lv49
 .leaf .leaf) .leaf))
def consT : Tr (List Nat) := .leaf
def pureT : Tr Unit := .leaf
def extT : Tr (List AV → Seg → Prog) := (.node 48 yEscPut
 (.node 46 yEscGet
 .leaf .leaf) .leaf)
def liveOf (f : Nat) : Nat → List Nat := match liveT.get f with
  | some t => getL t
  | none => fun _ => []
noncomputable def fnF (f : Nat) : Option Func := fnT.get f
def tyF (t : Nat) : Option Ty := tyT.get t
def consF (f : Nat) : List Nat := getL consT f
def pureF (f : Nat) : Bool := (pureT.get f).isSome
def extF (f : Nat) : Option (List AV → Seg → Prog) := extT.get f
noncomputable def envV (A : Ar) : Env := { A := A, fn := fnF, ty := tyF, live := liveOf, cons := consF, pure := pureF, ext := extF }
end Go.Va
