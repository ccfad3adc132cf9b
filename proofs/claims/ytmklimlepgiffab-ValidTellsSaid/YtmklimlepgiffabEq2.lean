/- The functions that the statement reaches, by equations: no statement of its own. -/
import Derived.Test.YtmklimlepgiffabEq1
import Derived.Test.YtmklimlepgiffabProg
set_option linter.unusedVariables false
set_option linter.unusedSimpArgs false
set_option linter.unusedSectionVars false
set_option maxRecDepth 20000
namespace Go.Va
open Go.Proofs
def ty3 : Ty := ⟨(.int .i64), 1, 8, [.s (.int .i64 0)], 0, [], []⟩
def ty4 : Ty := ⟨.bool, 1, 1, [.s (.bool false)], 0, [], []⟩
def ty5 : Ty := ⟨(.int .u8), 1, 1, [.s (.int .u8 0)], 0, [], []⟩
def ty9 : Ty := ⟨.str, 1, 16, [.s (.string ⟨#[]⟩)], 0, [], []⟩
def ty24 : Ty := ⟨.slice, 1, 24, [.sl 3 [] .full], 38, [], []⟩
def ty26 : Ty := ⟨.iface, 1, 16, [.s .nilIface], 0, [], []⟩
def ty38 : Ty := ⟨.struct, 3, 40, [.s (.int .i64 0), .s (.string ⟨#[]⟩), .s (.string ⟨#[]⟩)], 0, [some (0, 1), some (1, 1), some (2, 1)], [(.int .i64), .str, .str]⟩
def ty39 : Ty := ⟨(.int .i64), 1, 8, [.s (.int .i64 0)], 0, [], []⟩
def ty71 : Ty := ⟨.slice, 1, 24, [.sl 1 [] .full], 3, [], []⟩
def tyT : Tr Ty := (.node 24 ty24
 (.node 5 ty5
 (.node 4 ty4
 (.node 3 ty3
 .leaf .leaf) .leaf) (.node 9 ty9
 .leaf .leaf)) (.node 39 ty39
 (.node 38 ty38
 (.node 26 ty26
 .leaf .leaf) .leaf) (.node 71 ty71
 .leaf .leaf)))
/- 5: placket/placketlaw13.ValidTells -/
def lv5 : Tr (List Nat) := (.node 2 [0, 3, 7]
 (.node 1 [0, 3]
 (.node 0 [0]
 .leaf .leaf) .leaf) (.node 4 [2]
 (.node 3 [2]
 .leaf .leaf) .leaf))
def lvF5 (r : Nat) : List Nat := getL lv5 r
noncomputable def bd5 : Code := (Try.f5.body).getD .skip
/- 18: placket/placketlaw00.Code -/
def lv18 : Tr (List Nat) := (.node 4 [0, 3, 7]
 (.node 2 [2]
 (.node 1 [0, 5]
 (.node 0 [0]
 .leaf .leaf) .leaf) (.node 3 [0, 3]
 .leaf .leaf)) (.node 7 [2]
 (.node 6 [0, 3, 13]
 (.node 5 [0, 3]
 .leaf .leaf) .leaf) (.node 8 [2]
 .leaf .leaf)))
def lvF18 (r : Nat) : List Nat := getL lv18 r
noncomputable def bd18 : Code := (Try.f18.body).getD .skip
/- 20: placket/placketlaw12.Few -/
def lv20 : Tr (List Nat) := (.node 4 [0, 3, 29]
 (.node 2 [0, 3, 11]
 (.node 1 [0, 3]
 (.node 0 [0]
 .leaf .leaf) .leaf) (.node 3 [0, 3]
 .leaf .leaf)) (.node 7 [2]
 (.node 6 [32]
 (.node 5 [2]
 .leaf .leaf) .leaf) (.node 8 [2]
 .leaf .leaf)))
def lvF20 (r : Nat) : List Nat := getL lv20 r
noncomputable def bd20 : Code := (Try.f20.body).getD .skip
/- 22: placket/placketlaw13.up -/
def lv22 : Tr (List Nat) := (.node 3 [2, 13]
 (.node 1 [1]
 (.node 0 []
 .leaf .leaf) (.node 2 [1, 2]
 .leaf .leaf)) (.node 5 [0]
 (.node 4 [0]
 .leaf .leaf) .leaf))
def lvF22 (r : Nat) : List Nat := getL lv22 r
noncomputable def bd22 : Code := (Try.f22.body).getD .skip
/- 24: placket/placketref11.Check -/
def lv24 : Tr (List Nat) := (.node 6 [0, 3, 4]
 (.node 3 [0, 3]
 (.node 1 [0, 9]
 (.node 0 [0]
 .leaf .leaf) (.node 2 [2]
 .leaf .leaf)) (.node 5 [0, 3]
 (.node 4 [0, 3, 13]
 .leaf .leaf) .leaf)) (.node 10 [30]
 (.node 8 [2]
 (.node 7 [0, 3, 4, 20]
 .leaf .leaf) (.node 9 [6]
 .leaf .leaf)) (.node 12 [2]
 (.node 11 [2]
 .leaf .leaf) .leaf)))
def lvF24 (r : Nat) : List Nat := getL lv24 r
noncomputable def bd24 : Code := (Try.f24.body).getD .skip
/- 59: placket/ins.May -/
def lv59 : Tr (List Nat) := (.node 8 [1, 4, 41]
 (.node 4 [1, 4, 21]
 (.node 2 [1, 4, 5]
 (.node 1 [1, 4]
 (.node 0 [1]
 .leaf .leaf) .leaf) (.node 3 [2]
 .leaf .leaf)) (.node 6 [1, 4, 31]
 (.node 5 [2]
 .leaf .leaf) (.node 7 [2]
 .leaf .leaf))) (.node 12 [1, 4, 52]
 (.node 10 [2]
 (.node 9 [1, 4, 41]
 .leaf .leaf) (.node 11 [1, 4, 52]
 .leaf .leaf)) (.node 14 [2]
 (.node 13 [1, 52]
 .leaf .leaf) (.node 15 [2]
 .leaf .leaf))))
def lvF59 (r : Nat) : List Nat := getL lv59 r
noncomputable def bd59 : Code := (Try.f59.body).getD .skip
/- 62: placket/placketref11.wrong -/
def lv62 : Tr (List Nat) := (.node 13 [5, 8, 9, 10]
 (.node 6 [4]
 (.node 3 [0, 1, 5, 20]
 (.node 1 [0, 1, 5]
 (.node 0 [0, 1]
 .leaf .leaf) (.node 2 [0, 1, 5, 6]
 .leaf .leaf)) (.node 5 [0, 1, 5, 23]
 (.node 4 [4]
 .leaf .leaf) .leaf)) (.node 10 [4]
 (.node 8 [0, 1, 5, 8, 35]
 (.node 7 [0, 1, 5, 8]
 .leaf .leaf) (.node 9 [37]
 .leaf .leaf)) (.node 12 [5, 8, 9]
 (.node 11 [4]
 .leaf .leaf) .leaf))) (.node 20 [5, 8, 9, 10, 11, 12, 61]
 (.node 17 [5, 8, 9, 10, 11, 12]
 (.node 15 [5, 8, 9, 10, 11, 44]
 (.node 14 [5, 8, 9, 10, 11]
 .leaf .leaf) (.node 16 [5, 8, 9, 10, 11]
 .leaf .leaf)) (.node 19 [4]
 (.node 18 [5, 8, 9, 10, 11, 12, 53]
 .leaf .leaf) .leaf)) (.node 24 [92]
 (.node 22 [5, 8, 85]
 (.node 21 [5, 8, 9, 10, 11]
 .leaf .leaf) (.node 23 [4]
 .leaf .leaf)) (.node 26 [4]
 (.node 25 [4]
 .leaf .leaf) .leaf))))
def lvF62 (r : Nat) : List Nat := getL lv62 r
noncomputable def bd62 : Code := (Try.f62.body).getD .skip
/- 63: placket/placketref11.begin -/
def lv63 : Tr (List Nat) := (.node 6 [0, 1, 6, 7]
 (.node 3 [0, 1, 6, 7, 10]
 (.node 1 [0, 1, 6]
 (.node 0 [0, 1]
 .leaf .leaf) (.node 2 [0, 1, 6, 7]
 .leaf .leaf)) (.node 5 [0, 1, 6, 7, 18]
 (.node 4 [0, 1, 6, 7]
 .leaf .leaf) .leaf)) (.node 9 [6, 42]
 (.node 8 [0, 1, 6, 7]
 (.node 7 [0, 1, 6, 7, 34]
 .leaf .leaf) .leaf) (.node 11 [4, 5]
 (.node 10 [4, 5]
 .leaf .leaf) .leaf)))
def lvF63 (r : Nat) : List Nat := getL lv63 r
noncomputable def bd63 : Code := (Try.f63.body).getD .skip
/- 66: placket/name.Text -/
def lv66 : Tr (List Nat) := (.node 4 [0, 5, 6, 18]
 (.node 2 [0, 5, 6, 7]
 (.node 1 [0, 5, 6]
 (.node 0 [0]
 .leaf .leaf) .leaf) (.node 3 [0, 3, 5, 6]
 .leaf .leaf)) (.node 6 [0, 5, 6]
 (.node 5 [2]
 .leaf .leaf) (.node 7 [2]
 .leaf .leaf)))
def lvF66 (r : Nat) : List Nat := getL lv66 r
noncomputable def bd66 : Code := (Try.f66.body).getD .skip
/- 67: placket/name.May -/
def lv67 : Tr (List Nat) := (.node 5 [0, 3, 19, 20]
 (.node 2 [2]
 (.node 1 [0, 17]
 (.node 0 [0]
 .leaf .leaf) .leaf) (.node 4 [0, 19, 20, 21]
 (.node 3 [0, 19, 20]
 .leaf .leaf) .leaf)) (.node 8 [2]
 (.node 7 [0, 19, 20, 40]
 (.node 6 [0, 4, 19, 20]
 .leaf .leaf) .leaf) (.node 10 [2]
 (.node 9 [0, 19, 20]
 .leaf .leaf) .leaf)))
def lvF67 (r : Nat) : List Nat := getL lv67 r
noncomputable def bd67 : Code := (Try.f67.body).getD .skip
/- 69: placket/name.Void -/
def lv69 : Tr (List Nat) := (.node 4 [3, 4]
 (.node 2 [3, 4]
 (.node 1 [3]
 (.node 0 [0]
 .leaf .leaf) .leaf) (.node 3 [3, 4]
 .leaf .leaf)) (.node 6 [2]
 (.node 5 [4]
 .leaf .leaf) (.node 7 [2]
 .leaf .leaf)))
def lvF69 (r : Nat) : List Nat := getL lv69 r
noncomputable def bd69 : Code := (Try.f69.body).getD .skip
/- 72: placket/placketref01.Text -/
def lv72 : Tr (List Nat) := (.node 3 [0, 3]
 (.node 1 [0, 3]
 (.node 0 [0]
 .leaf .leaf) (.node 2 [0, 3, 7]
 .leaf .leaf)) (.node 5 [2]
 (.node 4 [0, 3, 19]
 .leaf .leaf) (.node 6 [2]
 .leaf .leaf)))
def lvF72 (r : Nat) : List Nat := getL lv72 r
noncomputable def bd72 : Code := (Try.f72.body).getD .skip
/- 73: placket/placketref01.Name -/
def lv73 : Tr (List Nat) := (.node 5 [0, 3]
 (.node 2 [2]
 (.node 1 [0, 12]
 (.node 0 [0]
 .leaf .leaf) .leaf) (.node 4 [0, 3, 16]
 (.node 3 [0, 3]
 .leaf .leaf) .leaf)) (.node 8 [2]
 (.node 7 [0, 3, 46]
 (.node 6 [0, 3, 4]
 .leaf .leaf) .leaf) (.node 9 [2]
 .leaf .leaf)))
def lvF73 (r : Nat) : List Nat := getL lv73 r
noncomputable def bd73 : Code := (Try.f73.body).getD .skip
/- 75: placket/placketref01.Void -/
def lv75 : Tr (List Nat) := (.node 1 [2]
 (.node 0 [0]
 .leaf .leaf) .leaf)
def lvF75 (r : Nat) : List Nat := getL lv75 r
noncomputable def bd75 : Code := (Try.f75.body).getD .skip
/- 80: placket/placketref11.tells -/
def lv80 : Tr (List Nat) := (.node 1 [2]
 (.node 0 [0]
 .leaf .leaf) .leaf)
def lvF80 (r : Nat) : List Nat := getL lv80 r
noncomputable def bd80 : Code := (Try.f80.body).getD .skip
/- 95: placket/placketref11.May -/
def lv95 : Tr (List Nat) := (.node 10 [1, 3, 5, 6, 20, 37]
 (.node 5 [1, 3, 4, 5, 6, 20]
 (.node 2 [1, 3, 4]
 (.node 1 [1, 3]
 (.node 0 [1]
 .leaf .leaf) .leaf) (.node 4 [1, 3, 4, 5, 6]
 (.node 3 [1, 3, 4, 5]
 .leaf .leaf) .leaf)) (.node 8 [1, 3, 4, 5, 6, 20, 31]
 (.node 7 [2]
 (.node 6 [1, 3, 4, 5, 6, 20, 21]
 .leaf .leaf) .leaf) (.node 9 [2]
 .leaf .leaf))) (.node 15 [1, 20, 52]
 (.node 13 [1, 3, 6, 20, 45]
 (.node 12 [1, 3, 6, 20, 45]
 (.node 11 [2]
 .leaf .leaf) .leaf) (.node 14 [2]
 .leaf .leaf)) (.node 18 [2]
 (.node 17 [1, 52]
 (.node 16 [1, 20, 52]
 .leaf .leaf) .leaf) (.node 19 [2]
 .leaf .leaf))))
def lvF95 (r : Nat) : List Nat := getL lv95 r
noncomputable def bd95 : Code := (Try.f95.body).getD .skip
/- 101: placket/placketref11.attr -/
def lv101 : Tr (List Nat) := (.node 6 [0, 1, 5, 6]
 (.node 3 [0, 1, 5, 6, 18]
 (.node 1 [0, 1, 5]
 (.node 0 [0, 1]
 .leaf .leaf) (.node 2 [0, 1, 5, 6]
 .leaf .leaf)) (.node 5 [4]
 (.node 4 [0, 1, 5, 6, 29]
 .leaf .leaf) .leaf)) (.node 10 [53]
 (.node 8 [0, 6, 39]
 (.node 7 [0, 1, 5, 6]
 .leaf .leaf) (.node 9 [4]
 .leaf .leaf)) (.node 12 [4]
 (.node 11 [4]
 .leaf .leaf) .leaf)))
def lvF101 (r : Nat) : List Nat := getL lv101 r
noncomputable def bd101 : Code := (Try.f101.body).getD .skip
/- 102: placket/placketref11.ahead -/
def lv102 : Tr (List Nat) := (.node 7 [0, 1, 7, 8, 9, 31]
 (.node 3 [0, 1, 5, 7, 8]
 (.node 1 [0, 1, 5]
 (.node 0 [0, 1]
 .leaf .leaf) (.node 2 [0, 1, 5, 7]
 .leaf .leaf)) (.node 5 [0, 1, 7, 8, 9, 19]
 (.node 4 [0, 1, 7, 8, 9]
 .leaf .leaf) (.node 6 [0, 1, 7, 8, 9]
 .leaf .leaf))) (.node 11 [0, 1, 7, 8, 9, 52]
 (.node 9 [0, 1, 7, 8, 9, 44]
 (.node 8 [0, 1, 7, 8, 9]
 .leaf .leaf) (.node 10 [0, 1, 7, 8, 9]
 .leaf .leaf)) (.node 13 [4]
 (.node 12 [0, 1, 7, 8, 9]
 .leaf .leaf) .leaf)))
def lvF102 (r : Nat) : List Nat := getL lv102 r
noncomputable def bd102 : Code := (Try.f102.body).getD .skip
/- 104: placket/name.letter -/
def lv104 : Tr (List Nat) := (.node 1 [2]
 (.node 0 [0]
 .leaf .leaf) .leaf)
def lvF104 (r : Nat) : List Nat := getL lv104 r
noncomputable def bd104 : Code := (Try.f104.body).getD .skip
/- 107: placket/placketref01.letter -/
def lv107 : Tr (List Nat) := (.node 1 [2]
 (.node 0 [0]
 .leaf .leaf) .leaf)
def lvF107 (r : Nat) : List Nat := getL lv107 r
noncomputable def bd107 : Code := (Try.f107.body).getD .skip
noncomputable def fnT : Tr Func := (.node 69 Try.f69
 (.node 59 Try.f59
 (.node 20 Try.f20
 (.node 18 Try.f18
 (.node 5 Try.f5
 .leaf .leaf) .leaf) (.node 24 Try.f24
 (.node 22 Try.f22
 .leaf .leaf) .leaf)) (.node 66 Try.f66
 (.node 63 Try.f63
 (.node 62 Try.f62
 .leaf .leaf) .leaf) (.node 67 Try.f67
 .leaf .leaf))) (.node 95 Try.f95
 (.node 75 Try.f75
 (.node 73 Try.f73
 (.node 72 Try.f72
 .leaf .leaf) .leaf) (.node 80 Try.f80
 .leaf .leaf)) (.node 104 Try.f104
 (.node 102 Try.f102
 (.node 101 Try.f101
 .leaf .leaf) .leaf) (.node 107 Try.f107
 .leaf .leaf))))
def liveT : Tr (Tr (List Nat)) := (.node 69 lv69
 (.node 59 lv59
 (.node 20 lv20
 (.node 18 lv18
 (.node 5 lv5
 .leaf .leaf) .leaf) (.node 24 lv24
 (.node 22 lv22
 .leaf .leaf) .leaf)) (.node 66 lv66
 (.node 63 lv63
 (.node 62 lv62
 .leaf .leaf) .leaf) (.node 67 lv67
 .leaf .leaf))) (.node 95 lv95
 (.node 75 lv75
 (.node 73 lv73
 (.node 72 lv72
 .leaf .leaf) .leaf) (.node 80 lv80
 .leaf .leaf)) (.node 104 lv104
 (.node 102 lv102
 (.node 101 lv101
 .leaf .leaf) .leaf) (.node 107 lv107
 .leaf .leaf))))
def consT : Tr (List Nat) := .leaf
def pureT : Tr Unit := .leaf
def extT : Tr (List AV → Seg → Prog) := (.node 23 (yCheck 39 59)
 .leaf .leaf)
def liveOf (f : Nat) : Nat → List Nat := match liveT.get f with
  | some t => getL t
  | none => fun _ => []
noncomputable def fnF (f : Nat) : Option Func := fnT.get f
def tyF (t : Nat) : Option Ty := tyT.get t
def consF (f : Nat) : List Nat := getL consT f
def pureF (f : Nat) : Bool := (pureT.get f).isSome
def extF (f : Nat) : Option (List AV → Seg → Prog) := extT.get f
noncomputable def envV (A : Ar) : Env := { A := A, fn := fnF, ty := tyF, live := liveOf, cons := consF, pure := pureF, ext := extF }
end Go.Va
