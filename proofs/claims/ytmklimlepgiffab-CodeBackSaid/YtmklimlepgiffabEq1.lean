/- The functions that the statement reaches, by equations: no statement of its own. -/
import Derived.Test.YtmklimlepgiffabVa40
import Derived.Test.YtmklimlepgiffabProg
set_option linter.unusedVariables false
set_option linter.unusedSimpArgs false
set_option linter.unusedSectionVars false
set_option maxRecDepth 20000
namespace Go.Va
open Go.Proofs
def ty3 : Ty := ⟨(.int .i64), 1, 8, [.s (.int .i64 0)], 0, [], []⟩
def ty4 : Ty := ⟨.bool, 1, 1, [.s (.bool false)], 0, [], []⟩
def ty5 : Ty := ⟨(.int .u8), 1, 1, [.s (.int .u8 0)], 0, [], []⟩
def ty9 : Ty := ⟨.str, 1, 16, [.s (.string ⟨#[]⟩)], 0, [], []⟩
def ty22 : Ty := ⟨.slice, 1, 24, [.sl 1 [] .full], 5, [], []⟩
def ty24 : Ty := ⟨.slice, 1, 24, [.sl 3 [] .full], 38, [], []⟩
def ty26 : Ty := ⟨.iface, 1, 16, [.s .nilIface], 0, [], []⟩
def ty38 : Ty := ⟨.struct, 3, 40, [.s (.int .i64 0), .s (.string ⟨#[]⟩), .s (.string ⟨#[]⟩)], 0, [some (0, 1), some (1, 1), some (2, 1)], [(.int .i64), .str, .str]⟩
def ty39 : Ty := ⟨(.int .i64), 1, 8, [.s (.int .i64 0)], 0, [], []⟩
def ty93 : Ty := ⟨.slice, 1, 24, [.sl 1 [] .full], 9, [], []⟩
def tyT : Tr Ty := (.node 24 ty24
 (.node 5 ty5
 (.node 4 ty4
 (.node 3 ty3
 .leaf .leaf) .leaf) (.node 22 ty22
 (.node 9 ty9
 .leaf .leaf) .leaf)) (.node 39 ty39
 (.node 38 ty38
 (.node 26 ty26
 .leaf .leaf) .leaf) (.node 93 ty93
 .leaf .leaf)))
/- 3: placket/placketlaw12.CodeGets -/
def lv3 : Tr (List Nat) := (.node 3 [2]
 (.node 1 [0, 3]
 (.node 0 [0]
 .leaf .leaf) (.node 2 [0, 3, 11]
 .leaf .leaf)) (.node 5 [3, 4, 5, 6, 7]
 (.node 4 [0, 3, 4, 5]
 .leaf .leaf) (.node 6 [2]
 .leaf .leaf)))
def lvF3 (r : Nat) : List Nat := getL lv3 r
noncomputable def bd3 : Code := (Try.f3.body).getD .skip
/- 4: placket/placketlaw12.CodeBack -/
def lv4 : Tr (List Nat) := (.node 12 [2, 7, 81]
 (.node 6 [0, 1, 2, 7, 10, 11]
 (.node 3 [6]
 (.node 1 [0, 1, 2, 7]
 (.node 0 [0, 1, 2]
 .leaf .leaf) (.node 2 [0, 1, 2, 7, 39]
 .leaf .leaf)) (.node 5 [0, 1, 2, 7, 8, 47]
 (.node 4 [0, 1, 2, 7, 8, 9]
 .leaf .leaf) .leaf)) (.node 9 [1, 2, 7, 12, 13]
 (.node 8 [6]
 (.node 7 [1, 2, 7, 60]
 .leaf .leaf) .leaf) (.node 11 [1, 2, 7, 14, 15]
 (.node 10 [1, 2, 7, 12, 67]
 .leaf .leaf) .leaf))) (.node 18 [7, 16, 17, 18]
 (.node 15 [7, 16, 17]
 (.node 14 [7, 16]
 (.node 13 [6]
 .leaf .leaf) .leaf) (.node 17 [7, 16, 17, 18, 88]
 (.node 16 [7, 16, 17, 18]
 .leaf .leaf) .leaf)) (.node 21 [7, 17, 20]
 (.node 20 [7, 16, 17, 18]
 (.node 19 [7, 16, 17, 18]
 .leaf .leaf) .leaf) (.node 23 [6]
 (.node 22 [7, 20, 22]
 .leaf .leaf) .leaf))))
def lvF4 (r : Nat) : List Nat := getL lv4 r
noncomputable def bd4 : Code := (Try.f4.body).getD .skip
/- 15: placket/placketlaw12.up -/
def lv15 : Tr (List Nat) := (.node 2 [1, 2, 4]
 (.node 1 [1, 2]
 (.node 0 []
 .leaf .leaf) .leaf) (.node 3 [0]
 .leaf .leaf))
def lvF15 (r : Nat) : List Nat := getL lv15 r
noncomputable def bd15 : Code := (Try.f15.body).getD .skip
/- 16: placket/code.Get -/
def lv16 : Tr (List Nat) := (.node 5 [2, 3]
 (.node 2 [0, 4, 10]
 (.node 1 [0, 4]
 (.node 0 [0]
 .leaf .leaf) .leaf) (.node 4 [4, 5, 6, 17]
 (.node 3 [4, 5, 6, 7]
 .leaf .leaf) .leaf)) (.node 8 [4, 6]
 (.node 7 [2, 3]
 (.node 6 [4, 5, 6, 21]
 .leaf .leaf) .leaf) (.node 10 [2, 3]
 (.node 9 [0, 4]
 .leaf .leaf) .leaf)))
def lvF16 (r : Nat) : List Nat := getL lv16 r
noncomputable def bd16 : Code := (Try.f16.body).getD .skip
/- 17: placket/placketref11.Get -/
def lv17 : Tr (List Nat) := (.node 5 [2, 3]
 (.node 2 [0, 4, 9]
 (.node 1 [0, 4]
 (.node 0 [0]
 .leaf .leaf) .leaf) (.node 4 [0, 4, 5, 6, 16]
 (.node 3 [0, 4, 5, 6]
 .leaf .leaf) .leaf)) (.node 8 [0, 4, 6]
 (.node 7 [2, 3]
 (.node 6 [0, 4, 5, 6, 19]
 .leaf .leaf) .leaf) (.node 10 [2, 3]
 (.node 9 [0, 4]
 .leaf .leaf) .leaf)))
def lvF17 (r : Nat) : List Nat := getL lv17 r
noncomputable def bd17 : Code := (Try.f17.body).getD .skip
/- 18: placket/placketlaw00.Code -/
def lv18 : Tr (List Nat) := (.node 4 [0, 3, 7]
 (.node 2 [2]
 (.node 1 [0, 5]
 (.node 0 [0]
 .leaf .leaf) .leaf) (.node 3 [0, 3]
 .leaf .leaf)) (.node 7 [2]
 (.node 6 [0, 3, 13]
 (.node 5 [0, 3]
 .leaf .leaf) .leaf) (.node 8 [2]
 .leaf .leaf)))
def lvF18 (r : Nat) : List Nat := getL lv18 r
noncomputable def bd18 : Code := (Try.f18.body).getD .skip
/- 19: placket/placketref11.Same -/
def lv19 : Tr (List Nat) := (.node 4 [0, 1, 5, 14]
 (.node 2 [4]
 (.node 1 [0, 1, 10]
 (.node 0 [0, 1]
 .leaf .leaf) .leaf) (.node 3 [0, 1, 5]
 .leaf .leaf)) (.node 7 [4]
 (.node 6 [0, 1, 5, 25]
 (.node 5 [0, 1, 5]
 .leaf .leaf) .leaf) (.node 8 [4]
 .leaf .leaf)))
def lvF19 (r : Nat) : List Nat := getL lv19 r
noncomputable def bd19 : Code := (Try.f19.body).getD .skip
/- 20: placket/placketlaw12.Few -/
def lv20 : Tr (List Nat) := (.node 4 [0, 3, 29]
 (.node 2 [0, 3, 11]
 (.node 1 [0, 3]
 (.node 0 [0]
 .leaf .leaf) .leaf) (.node 3 [0, 3]
 .leaf .leaf)) (.node 7 [2]
 (.node 6 [32]
 (.node 5 [2]
 .leaf .leaf) .leaf) (.node 8 [2]
 .leaf .leaf)))
def lvF20 (r : Nat) : List Nat := getL lv20 r
noncomputable def bd20 : Code := (Try.f20.body).getD .skip
/- 21: placket/code.Put -/
def lv21 : Tr (List Nat) := (.node 9 [0, 4, 9, 10, 11, 33, 34, 35, 36]
 (.node 4 [0, 4, 6, 9, 10, 11]
 (.node 2 [0, 4, 9, 10, 11]
 (.node 1 [0, 4]
 (.node 0 [0]
 .leaf .leaf) .leaf) (.node 3 [0, 4, 9, 10, 11, 12]
 .leaf .leaf)) (.node 7 [0, 4, 6, 9, 10, 11]
 (.node 6 [2, 3]
 (.node 5 [0, 4, 6, 9, 10, 11, 17]
 .leaf .leaf) .leaf) (.node 8 [0, 4, 9, 10, 11, 33, 34, 35]
 .leaf .leaf))) (.node 14 [0, 4, 9, 10, 11]
 (.node 12 [0, 4, 9, 10, 11, 33, 34, 35]
 (.node 11 [0, 4, 8, 9, 10, 11, 33, 34, 35]
 (.node 10 [0, 4, 8, 9, 10, 11, 33, 34, 35]
 .leaf .leaf) .leaf) (.node 13 [0, 4, 9, 10, 11, 33, 34, 35]
 .leaf .leaf)) (.node 16 [2, 3]
 (.node 15 [4, 52]
 .leaf .leaf) (.node 17 [2, 3]
 .leaf .leaf))))
def lvF21 (r : Nat) : List Nat := getL lv21 r
noncomputable def bd21 : Code := (Try.f21.body).getD .skip
/- 57: placket/code.one -/
def lv57 : Tr (List Nat) := (.node 5 [2, 5, 6, 7, 8, 20]
 (.node 2 [2, 5, 6]
 (.node 1 [0, 2, 5]
 (.node 0 [0, 2]
 .leaf .leaf) .leaf) (.node 4 [2, 5, 6, 7, 8]
 (.node 3 [2, 5, 6, 7]
 .leaf .leaf) .leaf)) (.node 8 [2, 5, 6, 7]
 (.node 7 [2, 5, 6, 7, 32]
 (.node 6 [2, 5, 6, 7, 8]
 .leaf .leaf) .leaf) (.node 9 [2, 3, 4]
 .leaf .leaf)))
def lvF57 (r : Nat) : List Nat := getL lv57 r
noncomputable def bd57 : Code := (Try.f57.body).getD .skip
/- 58: placket/placketref11.one -/
def lv58 : Tr (List Nat) := (.node 9 [0, 2, 4, 5, 6, 7, 37]
 (.node 4 [0, 2, 4, 5, 6, 18]
 (.node 2 [0, 2, 4, 5]
 (.node 1 [0, 2, 4]
 (.node 0 [0, 2]
 .leaf .leaf) .leaf) (.node 3 [0, 2, 4, 5, 6]
 .leaf .leaf)) (.node 7 [2, 3]
 (.node 6 [0, 2, 4, 5, 6, 24]
 (.node 5 [0, 2, 4, 5, 6]
 .leaf .leaf) .leaf) (.node 8 [0, 2, 4, 5, 6, 7]
 .leaf .leaf))) (.node 14 [0, 2, 4, 5, 6]
 (.node 12 [0, 2, 4, 6, 7]
 (.node 11 [0, 2, 4, 5, 6, 7, 40]
 (.node 10 [2, 3]
 .leaf .leaf) .leaf) (.node 13 [0, 2, 4, 6, 7]
 .leaf .leaf)) (.node 17 [2, 3]
 (.node 16 [2, 4, 5, 59]
 (.node 15 [2, 4, 5, 8]
 .leaf .leaf) .leaf) (.node 18 [2, 3]
 .leaf .leaf))))
def lvF58 (r : Nat) : List Nat := getL lv58 r
noncomputable def bd58 : Code := (Try.f58.body).getD .skip
/- 59: placket/ins.May -/
def lv59 : Tr (List Nat) := (.node 8 [1, 4, 41]
 (.node 4 [1, 4, 21]
 (.node 2 [1, 4, 5]
 (.node 1 [1, 4]
 (.node 0 [1]
 .leaf .leaf) .leaf) (.node 3 [2]
 .leaf .leaf)) (.node 6 [1, 4, 31]
 (.node 5 [2]
 .leaf .leaf) (.node 7 [2]
 .leaf .leaf))) (.node 12 [1, 4, 52]
 (.node 10 [2]
 (.node 9 [1, 4, 41]
 .leaf .leaf) (.node 11 [1, 4, 52]
 .leaf .leaf)) (.node 14 [2]
 (.node 13 [1, 52]
 .leaf .leaf) (.node 15 [2]
 .leaf .leaf))))
def lvF59 (r : Nat) : List Nat := getL lv59 r
noncomputable def bd59 : Code := (Try.f59.body).getD .skip
/- 60: placket/code.texts -/
def lv60 : Tr (List Nat) := (.node 3 [6]
 (.node 1 [0, 3]
 (.node 0 [0]
 .leaf .leaf) (.node 2 [2]
 .leaf .leaf)) (.node 5 [2]
 (.node 4 [2]
 .leaf .leaf) .leaf))
def lvF60 (r : Nat) : List Nat := getL lv60 r
noncomputable def bd60 : Code := (Try.f60.body).getD .skip
/- 66: placket/name.Text -/
def lv66 : Tr (List Nat) := (.node 4 [0, 5, 6, 18]
 (.node 2 [0, 5, 6, 7]
 (.node 1 [0, 5, 6]
 (.node 0 [0]
 .leaf .leaf) .leaf) (.node 3 [0, 3, 5, 6]
 .leaf .leaf)) (.node 6 [0, 5, 6]
 (.node 5 [2]
 .leaf .leaf) (.node 7 [2]
 .leaf .leaf)))
def lvF66 (r : Nat) : List Nat := getL lv66 r
noncomputable def bd66 : Code := (Try.f66.body).getD .skip
/- 67: placket/name.May -/
def lv67 : Tr (List Nat) := (.node 5 [0, 3, 19, 20]
 (.node 2 [2]
 (.node 1 [0, 17]
 (.node 0 [0]
 .leaf .leaf) .leaf) (.node 4 [0, 19, 20, 21]
 (.node 3 [0, 19, 20]
 .leaf .leaf) .leaf)) (.node 8 [2]
 (.node 7 [0, 19, 20, 40]
 (.node 6 [0, 4, 19, 20]
 .leaf .leaf) .leaf) (.node 10 [2]
 (.node 9 [0, 19, 20]
 .leaf .leaf) .leaf)))
def lvF67 (r : Nat) : List Nat := getL lv67 r
noncomputable def bd67 : Code := (Try.f67.body).getD .skip
/- 69: placket/name.Void -/
def lv69 : Tr (List Nat) := (.node 4 [3, 4]
 (.node 2 [3, 4]
 (.node 1 [3]
 (.node 0 [0]
 .leaf .leaf) .leaf) (.node 3 [3, 4]
 .leaf .leaf)) (.node 6 [2]
 (.node 5 [4]
 .leaf .leaf) (.node 7 [2]
 .leaf .leaf)))
def lvF69 (r : Nat) : List Nat := getL lv69 r
noncomputable def bd69 : Code := (Try.f69.body).getD .skip
/- 72: placket/placketref01.Text -/
def lv72 : Tr (List Nat) := (.node 3 [0, 3]
 (.node 1 [0, 3]
 (.node 0 [0]
 .leaf .leaf) (.node 2 [0, 3, 7]
 .leaf .leaf)) (.node 5 [2]
 (.node 4 [0, 3, 19]
 .leaf .leaf) (.node 6 [2]
 .leaf .leaf)))
def lvF72 (r : Nat) : List Nat := getL lv72 r
noncomputable def bd72 : Code := (Try.f72.body).getD .skip
/- 73: placket/placketref01.Name -/
def lv73 : Tr (List Nat) := (.node 5 [0, 3]
 (.node 2 [2]
 (.node 1 [0, 12]
 (.node 0 [0]
 .leaf .leaf) .leaf) (.node 4 [0, 3, 16]
 (.node 3 [0, 3]
 .leaf .leaf) .leaf)) (.node 8 [2]
 (.node 7 [0, 3, 46]
 (.node 6 [0, 3, 4]
 .leaf .leaf) .leaf) (.node 9 [2]
 .leaf .leaf)))
def lvF73 (r : Nat) : List Nat := getL lv73 r
noncomputable def bd73 : Code := (Try.f73.body).getD .skip
/- 75: placket/placketref01.Void -/
def lv75 : Tr (List Nat) := (.node 1 [2]
 (.node 0 [0]
 .leaf .leaf) .leaf)
def lvF75 (r : Nat) : List Nat := getL lv75 r
noncomputable def bd75 : Code := (Try.f75.body).getD .skip
/- 93: placket/code.text -/
def lv93 : Tr (List Nat) := (.node 2 [2, 3, 4]
 (.node 1 [0, 17]
 (.node 0 [0]
 .leaf .leaf) .leaf) (.node 4 [2, 3, 4]
 (.node 3 [0, 5]
 .leaf .leaf) .leaf))
def lvF93 (r : Nat) : List Nat := getL lv93 r
noncomputable def bd93 : Code := (Try.f93.body).getD .skip
/- 94: placket/placketref11.texts -/
def lv94 : Tr (List Nat) := (.node 5 [3, 4]
 (.node 2 [3, 4]
 (.node 1 [3]
 (.node 0 [0]
 .leaf .leaf) .leaf) (.node 4 [3, 4]
 (.node 3 [3, 4]
 .leaf .leaf) .leaf)) (.node 8 [2]
 (.node 7 [9]
 (.node 6 [2]
 .leaf .leaf) .leaf) (.node 9 [2]
 .leaf .leaf)))
def lvF94 (r : Nat) : List Nat := getL lv94 r
noncomputable def bd94 : Code := (Try.f94.body).getD .skip
/- 95: placket/placketref11.May -/
def lv95 : Tr (List Nat) := (.node 10 [1, 3, 5, 6, 20, 37]
 (.node 5 [1, 3, 4, 5, 6, 20]
 (.node 2 [1, 3, 4]
 (.node 1 [1, 3]
 (.node 0 [1]
 .leaf .leaf) .leaf) (.node 4 [1, 3, 4, 5, 6]
 (.node 3 [1, 3, 4, 5]
 .leaf .leaf) .leaf)) (.node 8 [1, 3, 4, 5, 6, 20, 31]
 (.node 7 [2]
 (.node 6 [1, 3, 4, 5, 6, 20, 21]
 .leaf .leaf) .leaf) (.node 9 [2]
 .leaf .leaf))) (.node 15 [1, 20, 52]
 (.node 13 [1, 3, 6, 20, 45]
 (.node 12 [1, 3, 6, 20, 45]
 (.node 11 [2]
 .leaf .leaf) .leaf) (.node 14 [2]
 .leaf .leaf)) (.node 18 [2]
 (.node 17 [1, 52]
 (.node 16 [1, 20, 52]
 .leaf .leaf) .leaf) (.node 19 [2]
 .leaf .leaf))))
def lvF95 (r : Nat) : List Nat := getL lv95 r
noncomputable def bd95 : Code := (Try.f95.body).getD .skip
/- 96: placket/ins.Makes -/
def lv96 : Tr (List Nat) := (.node 1 [2]
 (.node 0 [0]
 .leaf .leaf) .leaf)
def lvF96 (r : Nat) : List Nat := getL lv96 r
noncomputable def bd96 : Code := (Try.f96.body).getD .skip
/- 97: placket/ins.Tells -/
def lv97 : Tr (List Nat) := (.node 1 [2]
 (.node 0 [0]
 .leaf .leaf) .leaf)
def lvF97 (r : Nat) : List Nat := getL lv97 r
noncomputable def bd97 : Code := (Try.f97.body).getD .skip
/- 104: placket/name.letter -/
def lv104 : Tr (List Nat) := (.node 1 [2]
 (.node 0 [0]
 .leaf .leaf) .leaf)
def lvF104 (r : Nat) : List Nat := getL lv104 r
noncomputable def bd104 : Code := (Try.f104.body).getD .skip
/- 107: placket/placketref01.letter -/
def lv107 : Tr (List Nat) := (.node 1 [2]
 (.node 0 [0]
 .leaf .leaf) .leaf)
def lvF107 (r : Nat) : List Nat := getL lv107 r
noncomputable def bd107 : Code := (Try.f107.body).getD .skip
noncomputable def fnT : Tr Func := (.node 66 Try.f66
 (.node 19 Try.f19
 (.node 16 Try.f16
 (.node 4 Try.f4
 (.node 3 Try.f3
 .leaf .leaf) (.node 15 Try.f15
 .leaf .leaf)) (.node 18 Try.f18
 (.node 17 Try.f17
 .leaf .leaf) .leaf)) (.node 58 Try.f58
 (.node 21 Try.f21
 (.node 20 Try.f20
 .leaf .leaf) (.node 57 Try.f57
 .leaf .leaf)) (.node 60 Try.f60
 (.node 59 Try.f59
 .leaf .leaf) .leaf))) (.node 94 Try.f94
 (.node 73 Try.f73
 (.node 69 Try.f69
 (.node 67 Try.f67
 .leaf .leaf) (.node 72 Try.f72
 .leaf .leaf)) (.node 93 Try.f93
 (.node 75 Try.f75
 .leaf .leaf) .leaf)) (.node 97 Try.f97
 (.node 96 Try.f96
 (.node 95 Try.f95
 .leaf .leaf) .leaf) (.node 107 Try.f107
 (.node 104 Try.f104
 .leaf .leaf) .leaf))))
def liveT : Tr (Tr (List Nat)) := (.node 66 lv66
 (.node 19 lv19
 (.node 16 lv16
 (.node 4 lv4
 (.node 3 lv3
 .leaf .leaf) (.node 15 lv15
 .leaf .leaf)) (.node 18 lv18
 (.node 17 lv17
 .leaf .leaf) .leaf)) (.node 58 lv58
 (.node 21 lv21
 (.node 20 lv20
 .leaf .leaf) (.node 57 lv57
 .leaf .leaf)) (.node 60 lv60
 (.node 59 lv59
 .leaf .leaf) .leaf))) (.node 94 lv94
 (.node 73 lv73
 (.node 69 lv69
 (.node 67 lv67
 .leaf .leaf) (.node 72 lv72
 .leaf .leaf)) (.node 93 lv93
 (.node 75 lv75
 .leaf .leaf) .leaf)) (.node 97 lv97
 (.node 96 lv96
 (.node 95 lv95
 .leaf .leaf) .leaf) (.node 107 lv107
 (.node 104 lv104
 .leaf .leaf) .leaf))))
def consT : Tr (List Nat) := (.node 57 [2]
 (.node 16 [2]
 .leaf .leaf) (.node 93 [2]
 .leaf .leaf))
def pureT : Tr Unit := .leaf
def extT : Tr (List AV → Seg → Prog) := .leaf
def liveOf (f : Nat) : Nat → List Nat := match liveT.get f with
  | some t => getL t
  | none => fun _ => []
noncomputable def fnF (f : Nat) : Option Func := fnT.get f
def tyF (t : Nat) : Option Ty := tyT.get t
def consF (f : Nat) : List Nat := getL consT f
def pureF (f : Nat) : Bool := (pureT.get f).isSome
def extF (f : Nat) : Option (List AV → Seg → Prog) := extT.get f
noncomputable def envV (A : Ar) : Env := { A := A, fn := fnF, ty := tyF, live := liveOf, cons := consF, pure := pureF, ext := extF }
end Go.Va
