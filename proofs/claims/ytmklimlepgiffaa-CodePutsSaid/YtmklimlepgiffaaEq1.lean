/- The functions that the statement reaches, by equations: no statement of its own. -/
import Derived.Test.YtmklimlepgiffaaVa40
import Derived.Test.YtmklimlepgiffaaProg
set_option linter.unusedVariables false
set_option linter.unusedSimpArgs false
set_option maxRecDepth 20000
namespace Go.Va
open Go.Proofs
def ty3 : Ty := ⟨(.int .i64), 1, 8, [.s (.int .i64 0)], 0, [], []⟩
def ty4 : Ty := ⟨.bool, 1, 1, [.s (.bool false)], 0, [], []⟩
def ty5 : Ty := ⟨(.int .u8), 1, 1, [.s (.int .u8 0)], 0, [], []⟩
def ty9 : Ty := ⟨.str, 1, 16, [.s (.string ⟨#[]⟩)], 0, [], []⟩
def ty25 : Ty := ⟨.struct, 3, 40, [.s (.int .i64 0), .s (.string ⟨#[]⟩), .s (.string ⟨#[]⟩)], 0, [some (0, 1), some (1, 1), some (2, 1)], [(.int .i64), .str, .str]⟩
def ty31 : Ty := ⟨.iface, 1, 16, [.s .nilIface], 0, [], []⟩
def ty45 : Ty := ⟨(.int .i64), 1, 8, [.s (.int .i64 0)], 0, [], []⟩
def ty81 : Ty := ⟨.slice, 1, 24, [.sl 3 [] .full], 25, [], []⟩
def ty83 : Ty := ⟨.slice, 1, 24, [.sl 1 [] .full], 5, [], []⟩
def ty121 : Ty := ⟨.slice, 1, 24, [.sl 1 [] .full], 9, [], []⟩
def tyT : Tr Ty := (.node 31 ty31
 (.node 5 ty5
 (.node 4 ty4
 (.node 3 ty3
 .leaf .leaf) .leaf) (.node 25 ty25
 (.node 9 ty9
 .leaf .leaf) .leaf)) (.node 83 ty83
 (.node 81 ty81
 (.node 45 ty45
 .leaf .leaf) .leaf) (.node 121 ty121
 .leaf .leaf)))
/- 5: placket/placketlaw11.InsTells -/
def lv5 : Tr (List Nat) := (.node 3 [2]
 (.node 1 [1, 3]
 (.node 0 [1]
 .leaf .leaf) (.node 2 [1, 3, 15]
 .leaf .leaf)) (.node 5 [2]
 (.node 4 [1, 3, 4]
 .leaf .leaf) .leaf))
def lvF5 (r : Nat) : List Nat := getL lv5 r
noncomputable def bd5 : Code := (Try.f5.body).getD .skip
/- 14: placket/placketlaw12.CodePuts -/
def lv14 : Tr (List Nat) := (.node 7 [0, 3, 4, 5, 6]
 (.node 3 [2]
 (.node 1 [0, 3]
 (.node 0 [0]
 .leaf .leaf) (.node 2 [0, 3, 11]
 .leaf .leaf)) (.node 5 [0, 3, 4, 5, 6]
 (.node 4 [0, 3, 4, 5]
 .leaf .leaf) (.node 6 [0, 3, 4, 5, 6, 21]
 .leaf .leaf))) (.node 11 [0, 3, 4, 5, 44]
 (.node 9 [0, 3, 4, 5, 6, 30]
 (.node 8 [0, 3, 4, 5, 6, 7]
 .leaf .leaf) (.node 10 [2]
 .leaf .leaf)) (.node 13 [2]
 (.node 12 [2]
 .leaf .leaf) .leaf)))
def lvF14 (r : Nat) : List Nat := getL lv14 r
noncomputable def bd14 : Code := (Try.f14.body).getD .skip
/- 16: placket/name.May -/
def lv16 : Tr (List Nat) := (.node 5 [0, 3, 19, 20]
 (.node 2 [2]
 (.node 1 [0, 17]
 (.node 0 [0]
 .leaf .leaf) .leaf) (.node 4 [0, 19, 20, 21]
 (.node 3 [0, 19, 20]
 .leaf .leaf) .leaf)) (.node 8 [2]
 (.node 7 [0, 19, 20, 40]
 (.node 6 [0, 4, 19, 20]
 .leaf .leaf) .leaf) (.node 10 [2]
 (.node 9 [0, 19, 20]
 .leaf .leaf) .leaf)))
def lvF16 (r : Nat) : List Nat := getL lv16 r
noncomputable def bd16 : Code := (Try.f16.body).getD .skip
/- 17: placket/placketref01.Name -/
def lv17 : Tr (List Nat) := (.node 5 [0, 3]
 (.node 2 [2]
 (.node 1 [0, 12]
 (.node 0 [0]
 .leaf .leaf) .leaf) (.node 4 [0, 3, 16]
 (.node 3 [0, 3]
 .leaf .leaf) .leaf)) (.node 8 [2]
 (.node 7 [0, 3, 46]
 (.node 6 [0, 3, 4]
 .leaf .leaf) .leaf) (.node 9 [2]
 .leaf .leaf)))
def lvF17 (r : Nat) : List Nat := getL lv17 r
noncomputable def bd17 : Code := (Try.f17.body).getD .skip
/- 18: placket/name.Text -/
def lv18 : Tr (List Nat) := (.node 4 [0, 5, 6, 18]
 (.node 2 [0, 5, 6, 7]
 (.node 1 [0, 5, 6]
 (.node 0 [0]
 .leaf .leaf) .leaf) (.node 3 [0, 3, 5, 6]
 .leaf .leaf)) (.node 6 [0, 5, 6]
 (.node 5 [2]
 .leaf .leaf) (.node 7 [2]
 .leaf .leaf)))
def lvF18 (r : Nat) : List Nat := getL lv18 r
noncomputable def bd18 : Code := (Try.f18.body).getD .skip
/- 19: placket/placketref01.Text -/
def lv19 : Tr (List Nat) := (.node 3 [0, 3]
 (.node 1 [0, 3]
 (.node 0 [0]
 .leaf .leaf) (.node 2 [0, 3, 7]
 .leaf .leaf)) (.node 5 [2]
 (.node 4 [0, 3, 19]
 .leaf .leaf) (.node 6 [2]
 .leaf .leaf)))
def lvF19 (r : Nat) : List Nat := getL lv19 r
noncomputable def bd19 : Code := (Try.f19.body).getD .skip
/- 20: placket/name.Void -/
def lv20 : Tr (List Nat) := (.node 4 [3, 4]
 (.node 2 [3, 4]
 (.node 1 [3]
 (.node 0 [0]
 .leaf .leaf) .leaf) (.node 3 [3, 4]
 .leaf .leaf)) (.node 6 [2]
 (.node 5 [4]
 .leaf .leaf) (.node 7 [2]
 .leaf .leaf)))
def lvF20 (r : Nat) : List Nat := getL lv20 r
noncomputable def bd20 : Code := (Try.f20.body).getD .skip
/- 21: placket/placketref01.Void -/
def lv21 : Tr (List Nat) := (.node 1 [2]
 (.node 0 [0]
 .leaf .leaf) .leaf)
def lvF21 (r : Nat) : List Nat := getL lv21 r
noncomputable def bd21 : Code := (Try.f21.body).getD .skip
/- 22: placket/placketlaw11.up -/
def lv22 : Tr (List Nat) := (.node 1 [0]
 (.node 0 []
 .leaf .leaf) .leaf)
def lvF22 (r : Nat) : List Nat := getL lv22 r
noncomputable def bd22 : Code := (Try.f22.body).getD .skip
/- 23: placket/ins.May -/
def lv23 : Tr (List Nat) := (.node 8 [1, 4, 41]
 (.node 4 [1, 4, 21]
 (.node 2 [1, 4, 5]
 (.node 1 [1, 4]
 (.node 0 [1]
 .leaf .leaf) .leaf) (.node 3 [2]
 .leaf .leaf)) (.node 6 [1, 4, 31]
 (.node 5 [2]
 .leaf .leaf) (.node 7 [2]
 .leaf .leaf))) (.node 12 [1, 4, 52]
 (.node 10 [2]
 (.node 9 [1, 4, 41]
 .leaf .leaf) (.node 11 [1, 4, 52]
 .leaf .leaf)) (.node 14 [2]
 (.node 13 [1, 52]
 .leaf .leaf) (.node 15 [2]
 .leaf .leaf))))
def lvF23 (r : Nat) : List Nat := getL lv23 r
noncomputable def bd23 : Code := (Try.f23.body).getD .skip
/- 24: placket/placketref11.May -/
def lv24 : Tr (List Nat) := (.node 10 [1, 3, 5, 6, 20, 37]
 (.node 5 [1, 3, 4, 5, 6, 20]
 (.node 2 [1, 3, 4]
 (.node 1 [1, 3]
 (.node 0 [1]
 .leaf .leaf) .leaf) (.node 4 [1, 3, 4, 5, 6]
 (.node 3 [1, 3, 4, 5]
 .leaf .leaf) .leaf)) (.node 8 [1, 3, 4, 5, 6, 20, 31]
 (.node 7 [2]
 (.node 6 [1, 3, 4, 5, 6, 20, 21]
 .leaf .leaf) .leaf) (.node 9 [2]
 .leaf .leaf))) (.node 15 [1, 20, 52]
 (.node 13 [1, 3, 6, 20, 45]
 (.node 12 [1, 3, 6, 20, 45]
 (.node 11 [2]
 .leaf .leaf) .leaf) (.node 14 [2]
 .leaf .leaf)) (.node 18 [2]
 (.node 17 [1, 52]
 (.node 16 [1, 20, 52]
 .leaf .leaf) .leaf) (.node 19 [2]
 .leaf .leaf))))
def lvF24 (r : Nat) : List Nat := getL lv24 r
noncomputable def bd24 : Code := (Try.f24.body).getD .skip
/- 25: placket/ins.Makes -/
def lv25 : Tr (List Nat) := (.node 1 [2]
 (.node 0 [0]
 .leaf .leaf) .leaf)
def lvF25 (r : Nat) : List Nat := getL lv25 r
noncomputable def bd25 : Code := (Try.f25.body).getD .skip
/- 26: placket/ins.Tells -/
def lv26 : Tr (List Nat) := (.node 1 [2]
 (.node 0 [0]
 .leaf .leaf) .leaf)
def lvF26 (r : Nat) : List Nat := getL lv26 r
noncomputable def bd26 : Code := (Try.f26.body).getD .skip
/- 71: placket/placketlaw12.up -/
def lv71 : Tr (List Nat) := (.node 2 [1, 2, 4]
 (.node 1 [1, 2]
 (.node 0 []
 .leaf .leaf) .leaf) (.node 3 [0]
 .leaf .leaf))
def lvF71 (r : Nat) : List Nat := getL lv71 r
noncomputable def bd71 : Code := (Try.f71.body).getD .skip
/- 72: placket/placketlaw12.Few -/
def lv72 : Tr (List Nat) := (.node 4 [0, 3, 29]
 (.node 2 [0, 3, 11]
 (.node 1 [0, 3]
 (.node 0 [0]
 .leaf .leaf) .leaf) (.node 3 [0, 3]
 .leaf .leaf)) (.node 7 [2]
 (.node 6 [32]
 (.node 5 [2]
 .leaf .leaf) .leaf) (.node 8 [2]
 .leaf .leaf)))
def lvF72 (r : Nat) : List Nat := getL lv72 r
noncomputable def bd72 : Code := (Try.f72.body).getD .skip
/- 73: placket/code.Put -/
def lv73 : Tr (List Nat) := (.node 9 [0, 4, 9, 10, 11, 33, 34, 35, 36]
 (.node 4 [0, 4, 6, 9, 10, 11]
 (.node 2 [0, 4, 9, 10, 11]
 (.node 1 [0, 4]
 (.node 0 [0]
 .leaf .leaf) .leaf) (.node 3 [0, 4, 9, 10, 11, 12]
 .leaf .leaf)) (.node 7 [0, 4, 6, 9, 10, 11]
 (.node 6 [2, 3]
 (.node 5 [0, 4, 6, 9, 10, 11, 17]
 .leaf .leaf) .leaf) (.node 8 [0, 4, 9, 10, 11, 33, 34, 35]
 .leaf .leaf))) (.node 14 [0, 4, 9, 10, 11]
 (.node 12 [0, 4, 9, 10, 11, 33, 34, 35]
 (.node 11 [0, 4, 8, 9, 10, 11, 33, 34, 35]
 (.node 10 [0, 4, 8, 9, 10, 11, 33, 34, 35]
 .leaf .leaf) .leaf) (.node 13 [0, 4, 9, 10, 11, 33, 34, 35]
 .leaf .leaf)) (.node 16 [2, 3]
 (.node 15 [4, 52]
 .leaf .leaf) (.node 17 [2, 3]
 .leaf .leaf))))
def lvF73 (r : Nat) : List Nat := getL lv73 r
noncomputable def bd73 : Code := (Try.f73.body).getD .skip
/- 74: placket/placketref11.Put -/
def lv74 : Tr (List Nat) := (.node 5 [0, 3, 4]
 (.node 2 [0, 3, 4]
 (.node 1 [0, 3]
 (.node 0 [0]
 .leaf .leaf) .leaf) (.node 4 [0, 3, 4]
 (.node 3 [0, 3, 4, 8]
 .leaf .leaf) .leaf)) (.node 8 [0, 3, 4, 41]
 (.node 7 [0, 3, 4]
 (.node 6 [0, 3, 4, 26]
 .leaf .leaf) .leaf) (.node 10 [2]
 (.node 9 [0, 3, 4]
 .leaf .leaf) .leaf)))
def lvF74 (r : Nat) : List Nat := getL lv74 r
noncomputable def bd74 : Code := (Try.f74.body).getD .skip
/- 75: placket/name.letter -/
def lv75 : Tr (List Nat) := (.node 1 [2]
 (.node 0 [0]
 .leaf .leaf) .leaf)
def lvF75 (r : Nat) : List Nat := getL lv75 r
noncomputable def bd75 : Code := (Try.f75.body).getD .skip
/- 76: placket/placketref01.letter -/
def lv76 : Tr (List Nat) := (.node 1 [2]
 (.node 0 [0]
 .leaf .leaf) .leaf)
def lvF76 (r : Nat) : List Nat := getL lv76 r
noncomputable def bd76 : Code := (Try.f76.body).getD .skip
/- 93: placket/code.Get -/
def lv93 : Tr (List Nat) := (.node 5 [2, 3]
 (.node 2 [0, 4, 10]
 (.node 1 [0, 4]
 (.node 0 [0]
 .leaf .leaf) .leaf) (.node 4 [4, 5, 6, 17]
 (.node 3 [4, 5, 6, 7]
 .leaf .leaf) .leaf)) (.node 8 [4, 6]
 (.node 7 [2, 3]
 (.node 6 [4, 5, 6, 21]
 .leaf .leaf) .leaf) (.node 10 [2, 3]
 (.node 9 [0, 4]
 .leaf .leaf) .leaf)))
def lvF93 (r : Nat) : List Nat := getL lv93 r
noncomputable def bd93 : Code := (Try.f93.body).getD .skip
/- 94: placket/code.texts -/
def lv94 : Tr (List Nat) := (.node 3 [6]
 (.node 1 [0, 3]
 (.node 0 [0]
 .leaf .leaf) (.node 2 [2]
 .leaf .leaf)) (.node 5 [2]
 (.node 4 [2]
 .leaf .leaf) .leaf))
def lvF94 (r : Nat) : List Nat := getL lv94 r
noncomputable def bd94 : Code := (Try.f94.body).getD .skip
/- 95: placket/placketref11.texts -/
def lv95 : Tr (List Nat) := (.node 5 [3, 4]
 (.node 2 [3, 4]
 (.node 1 [3]
 (.node 0 [0]
 .leaf .leaf) .leaf) (.node 4 [3, 4]
 (.node 3 [3, 4]
 .leaf .leaf) .leaf)) (.node 8 [2]
 (.node 7 [9]
 (.node 6 [2]
 .leaf .leaf) .leaf) (.node 9 [2]
 .leaf .leaf)))
def lvF95 (r : Nat) : List Nat := getL lv95 r
noncomputable def bd95 : Code := (Try.f95.body).getD .skip
/- 96: placket/placketref11.text -/
def lv96 : Tr (List Nat) := (.node 1 [2]
 (.node 0 [0]
 .leaf .leaf) .leaf)
def lvF96 (r : Nat) : List Nat := getL lv96 r
noncomputable def bd96 : Code := (Try.f96.body).getD .skip
/- 108: placket/code.one -/
def lv108 : Tr (List Nat) := (.node 5 [2, 5, 6, 7, 8, 20]
 (.node 2 [2, 5, 6]
 (.node 1 [0, 2, 5]
 (.node 0 [0, 2]
 .leaf .leaf) .leaf) (.node 4 [2, 5, 6, 7, 8]
 (.node 3 [2, 5, 6, 7]
 .leaf .leaf) .leaf)) (.node 8 [2, 5, 6, 7]
 (.node 7 [2, 5, 6, 7, 32]
 (.node 6 [2, 5, 6, 7, 8]
 .leaf .leaf) .leaf) (.node 9 [2, 3, 4]
 .leaf .leaf)))
def lvF108 (r : Nat) : List Nat := getL lv108 r
noncomputable def bd108 : Code := (Try.f108.body).getD .skip
/- 112: placket/code.text -/
def lv112 : Tr (List Nat) := (.node 2 [2, 3, 4]
 (.node 1 [0, 17]
 (.node 0 [0]
 .leaf .leaf) .leaf) (.node 4 [2, 3, 4]
 (.node 3 [0, 5]
 .leaf .leaf) .leaf))
def lvF112 (r : Nat) : List Nat := getL lv112 r
noncomputable def bd112 : Code := (Try.f112.body).getD .skip
noncomputable def fnT : Tr Func := (.node 26 Try.f26
 (.node 20 Try.f20
 (.node 17 Try.f17
 (.node 14 Try.f14
 (.node 5 Try.f5
 .leaf .leaf) (.node 16 Try.f16
 .leaf .leaf)) (.node 19 Try.f19
 (.node 18 Try.f18
 .leaf .leaf) .leaf)) (.node 23 Try.f23
 (.node 22 Try.f22
 (.node 21 Try.f21
 .leaf .leaf) .leaf) (.node 25 Try.f25
 (.node 24 Try.f24
 .leaf .leaf) .leaf))) (.node 93 Try.f93
 (.node 74 Try.f74
 (.node 72 Try.f72
 (.node 71 Try.f71
 .leaf .leaf) (.node 73 Try.f73
 .leaf .leaf)) (.node 76 Try.f76
 (.node 75 Try.f75
 .leaf .leaf) .leaf)) (.node 96 Try.f96
 (.node 95 Try.f95
 (.node 94 Try.f94
 .leaf .leaf) .leaf) (.node 112 Try.f112
 (.node 108 Try.f108
 .leaf .leaf) .leaf))))
def liveT : Tr (Tr (List Nat)) := (.node 26 lv26
 (.node 20 lv20
 (.node 17 lv17
 (.node 14 lv14
 (.node 5 lv5
 .leaf .leaf) (.node 16 lv16
 .leaf .leaf)) (.node 19 lv19
 (.node 18 lv18
 .leaf .leaf) .leaf)) (.node 23 lv23
 (.node 22 lv22
 (.node 21 lv21
 .leaf .leaf) .leaf) (.node 25 lv25
 (.node 24 lv24
 .leaf .leaf) .leaf))) (.node 93 lv93
 (.node 74 lv74
 (.node 72 lv72
 (.node 71 lv71
 .leaf .leaf) (.node 73 lv73
 .leaf .leaf)) (.node 76 lv76
 (.node 75 lv75
 .leaf .leaf) .leaf)) (.node 96 lv96
 (.node 95 lv95
 (.node 94 lv94
 .leaf .leaf) .leaf) (.node 112 lv112
 (.node 108 lv108
 .leaf .leaf) .leaf))))
def consT : Tr (List Nat) := (.node 108 [2]
 (.node 93 [2]
 .leaf .leaf) (.node 112 [2]
 .leaf .leaf))
def pureT : Tr Unit := .leaf
def extT : Tr (List AV → Seg → Prog) := .leaf
def liveOf (f : Nat) : Nat → List Nat := match liveT.get f with
  | some t => getL t
  | none => fun _ => []
noncomputable def fnF (f : Nat) : Option Func := fnT.get f
def tyF (t : Nat) : Option Ty := tyT.get t
def consF (f : Nat) : List Nat := getL consT f
def pureF (f : Nat) : Bool := (pureT.get f).isSome
def extF (f : Nat) : Option (List AV → Seg → Prog) := extT.get f
noncomputable def envV (A : Ar) : Env := { A := A, fn := fnF, ty := tyF, live := liveOf, cons := consF, pure := pureF, ext := extF }
end Go.Va
