/- The functions that the statement reaches, by equations: no statement of its own. -/
import Derived.Test.YtmklimlepgiffabEq1
import Derived.Test.YtmklimlepgiffabProg
set_option linter.unusedVariables false
set_option linter.unusedSimpArgs false
set_option linter.unusedSectionVars false
set_option maxRecDepth 20000
namespace Go.Va
open Go.Proofs
def ty3 : Ty := ⟨(.int .i64), 1, 8, [.s (.int .i64 0)], 0, [], []⟩
def ty4 : Ty := ⟨.bool, 1, 1, [.s (.bool false)], 0, [], []⟩
def ty5 : Ty := ⟨(.int .u8), 1, 1, [.s (.int .u8 0)], 0, [], []⟩
def ty9 : Ty := ⟨.str, 1, 16, [.s (.string ⟨#[]⟩)], 0, [], []⟩
def ty24 : Ty := ⟨.slice, 1, 24, [.sl 3 [] .full], 38, [], []⟩
def ty26 : Ty := ⟨.iface, 1, 16, [.s .nilIface], 0, [], []⟩
def ty38 : Ty := ⟨.struct, 3, 40, [.s (.int .i64 0), .s (.string ⟨#[]⟩), .s (.string ⟨#[]⟩)], 0, [some (0, 1), some (1, 1), some (2, 1)], [(.int .i64), .str, .str]⟩
def ty39 : Ty := ⟨(.int .i64), 1, 8, [.s (.int .i64 0)], 0, [], []⟩
def ty43 : Ty := ⟨.slice, 1, 24, [.sl 3 [] .full], 120, [], []⟩
def ty51 : Ty := ⟨.slice, 1, 24, [.sl 6 [] .full], 80, [], []⟩
def ty55 : Ty := ⟨.slice, 1, 24, [.sl 6 [] .full], 117, [], []⟩
def ty71 : Ty := ⟨.slice, 1, 24, [.sl 1 [] .full], 3, [], []⟩
def ty80 : Ty := ⟨.struct, 6, 104, [.s (.int .i64 0), .s (.string ⟨#[]⟩), .s (.string ⟨#[]⟩), .s (.string ⟨#[]⟩), .sl 3 [] .full, .sl 6 [] .full], 0, [some (0, 1), some (1, 1), some (2, 1), some (3, 1), some (4, 1), some (5, 1)], []⟩
def ty117 : Ty := ⟨.struct, 6, 104, [.s (.int .i64 0), .s (.string ⟨#[]⟩), .s (.string ⟨#[]⟩), .s (.string ⟨#[]⟩), .sl 3 [] .full, .sl 6 [] .full], 0, [some (0, 1), some (1, 1), some (2, 1), some (3, 1), some (4, 1), some (5, 1)], []⟩
def ty120 : Ty := ⟨.struct, 3, 40, [.s (.string ⟨#[]⟩), .s (.string ⟨#[]⟩), .s (.bool false)], 0, [some (0, 1), some (1, 1), some (2, 1)], [.str, .str, .bool]⟩
def tyT : Tr Ty := (.node 39 ty39
 (.node 9 ty9
 (.node 4 ty4
 (.node 3 ty3
 .leaf .leaf) (.node 5 ty5
 .leaf .leaf)) (.node 26 ty26
 (.node 24 ty24
 .leaf .leaf) (.node 38 ty38
 .leaf .leaf))) (.node 71 ty71
 (.node 51 ty51
 (.node 43 ty43
 .leaf .leaf) (.node 55 ty55
 .leaf .leaf)) (.node 117 ty117
 (.node 80 ty80
 .leaf .leaf) (.node 120 ty120
 .leaf .leaf))))
/- 5: placket/placketlaw13.ValidTells -/
def lv5 : Tr (List Nat) := (.node 2 [0, 3, 7]
 (.node 1 [0, 3]
 (.node 0 [0]
 .leaf .leaf) .leaf) (.node 4 [2]
 (.node 3 [2]
 .leaf .leaf) .leaf))
def lvF5 (r : Nat) : List Nat := getL lv5 r
noncomputable def bd5 : Code := (Try.f5.body).getD .skip
/- 7: placket/placketlaw18.BoundTells -/
def lv7 : Tr (List Nat) := (.node 6 [4]
 (.node 3 [4]
 (.node 1 [0, 1, 5]
 (.node 0 [0, 1]
 .leaf .leaf) (.node 2 [0, 1, 5, 17]
 .leaf .leaf)) (.node 5 [1, 5, 6, 25]
 (.node 4 [1, 5, 6, 7]
 .leaf .leaf) .leaf)) (.node 9 [1, 5, 6, 8, 9, 32]
 (.node 8 [1, 5, 6, 8, 9]
 (.node 7 [1, 5, 6, 8]
 .leaf .leaf) .leaf) (.node 11 [4]
 (.node 10 [1, 5, 6, 8, 9]
 .leaf .leaf) .leaf)))
def lvF7 (r : Nat) : List Nat := getL lv7 r
noncomputable def bd7 : Code := (Try.f7.body).getD .skip
/- 8: placket/placketlaw18.BoundMore -/
def lv8 : Tr (List Nat) := (.node 5 [2, 7, 8, 9, 10, 11]
 (.node 2 [0, 1, 2, 7, 29]
 (.node 1 [0, 1, 2, 7]
 (.node 0 [0, 1, 2]
 .leaf .leaf) .leaf) (.node 4 [1, 2, 7, 8, 9]
 (.node 3 [6]
 .leaf .leaf) .leaf)) (.node 8 [2, 7, 8, 10, 12]
 (.node 7 [6]
 (.node 6 [2, 7, 8, 10, 46]
 .leaf .leaf) .leaf) (.node 9 [6]
 .leaf .leaf)))
def lvF8 (r : Nat) : List Nat := getL lv8 r
noncomputable def bd8 : Code := (Try.f8.body).getD .skip
/- 9: placket/placketlaw14.WishTells -/
def lv9 : Tr (List Nat) := (.node 8 [0, 1, 5, 6, 43]
 (.node 4 [0, 1, 5, 6, 7]
 (.node 2 [0, 1, 5, 20]
 (.node 1 [0, 1, 5]
 (.node 0 [0, 1]
 .leaf .leaf) .leaf) (.node 3 [4]
 .leaf .leaf)) (.node 6 [0, 1, 5, 6, 8, 41]
 (.node 5 [0, 1, 5, 6, 7, 8]
 .leaf .leaf) (.node 7 [4]
 .leaf .leaf))) (.node 13 [1, 5, 6, 9, 10, 11]
 (.node 11 [1, 5, 6, 9, 64]
 (.node 10 [1, 5, 6, 9]
 (.node 9 [4]
 .leaf .leaf) .leaf) (.node 12 [4]
 .leaf .leaf)) (.node 15 [4]
 (.node 14 [1, 5, 6, 9, 10, 71]
 .leaf .leaf) (.node 16 [4]
 .leaf .leaf))))
def lvF9 (r : Nat) : List Nat := getL lv9 r
noncomputable def bd9 : Code := (Try.f9.body).getD .skip
/- 12: placket/placketlaw14.WishBack -/
def lv12 : Tr (List Nat) := (.node 7 [0, 3, 4, 6]
 (.node 3 [2]
 (.node 1 [0, 3]
 (.node 0 [0]
 .leaf .leaf) (.node 2 [0, 3, 11]
 .leaf .leaf)) (.node 5 [0, 3, 4, 19]
 (.node 4 [0, 3, 4, 5]
 .leaf .leaf) (.node 6 [2]
 .leaf .leaf))) (.node 11 [0, 3, 4, 6, 7, 48]
 (.node 9 [0, 3, 4, 6, 7, 24]
 (.node 8 [0, 3, 4, 6, 7]
 .leaf .leaf) (.node 10 [0, 3, 4, 6, 7]
 .leaf .leaf)) (.node 13 [2]
 (.node 12 [0, 3, 4, 6, 7]
 .leaf .leaf) .leaf)))
def lvF12 (r : Nat) : List Nat := getL lv12 r
noncomputable def bd12 : Code := (Try.f12.body).getD .skip
/- 18: placket/placketlaw00.Code -/
def lv18 : Tr (List Nat) := (.node 4 [0, 3, 7]
 (.node 2 [2]
 (.node 1 [0, 5]
 (.node 0 [0]
 .leaf .leaf) .leaf) (.node 3 [0, 3]
 .leaf .leaf)) (.node 7 [2]
 (.node 6 [0, 3, 13]
 (.node 5 [0, 3]
 .leaf .leaf) .leaf) (.node 8 [2]
 .leaf .leaf)))
def lvF18 (r : Nat) : List Nat := getL lv18 r
noncomputable def bd18 : Code := (Try.f18.body).getD .skip
/- 19: placket/placketref11.Same -/
def lv19 : Tr (List Nat) := (.node 4 [0, 1, 5, 14]
 (.node 2 [4]
 (.node 1 [0, 1, 10]
 (.node 0 [0, 1]
 .leaf .leaf) .leaf) (.node 3 [0, 1, 5]
 .leaf .leaf)) (.node 7 [4]
 (.node 6 [0, 1, 5, 25]
 (.node 5 [0, 1, 5]
 .leaf .leaf) .leaf) (.node 8 [4]
 .leaf .leaf)))
def lvF19 (r : Nat) : List Nat := getL lv19 r
noncomputable def bd19 : Code := (Try.f19.body).getD .skip
/- 20: placket/placketlaw12.Few -/
def lv20 : Tr (List Nat) := (.node 4 [0, 3, 29]
 (.node 2 [0, 3, 11]
 (.node 1 [0, 3]
 (.node 0 [0]
 .leaf .leaf) .leaf) (.node 3 [0, 3]
 .leaf .leaf)) (.node 7 [2]
 (.node 6 [32]
 (.node 5 [2]
 .leaf .leaf) .leaf) (.node 8 [2]
 .leaf .leaf)))
def lvF20 (r : Nat) : List Nat := getL lv20 r
noncomputable def bd20 : Code := (Try.f20.body).getD .skip
/- 22: placket/placketlaw13.up -/
def lv22 : Tr (List Nat) := (.node 3 [2, 13]
 (.node 1 [1]
 (.node 0 []
 .leaf .leaf) (.node 2 [1, 2]
 .leaf .leaf)) (.node 5 [0]
 (.node 4 [0]
 .leaf .leaf) .leaf))
def lvF22 (r : Nat) : List Nat := getL lv22 r
noncomputable def bd22 : Code := (Try.f22.body).getD .skip
/- 24: placket/placketref11.Check -/
def lv24 : Tr (List Nat) := (.node 6 [0, 3, 4]
 (.node 3 [0, 3]
 (.node 1 [0, 9]
 (.node 0 [0]
 .leaf .leaf) (.node 2 [2]
 .leaf .leaf)) (.node 5 [0, 3]
 (.node 4 [0, 3, 13]
 .leaf .leaf) .leaf)) (.node 10 [30]
 (.node 8 [2]
 (.node 7 [0, 3, 4, 20]
 .leaf .leaf) (.node 9 [6]
 .leaf .leaf)) (.node 12 [2]
 (.node 11 [2]
 .leaf .leaf) .leaf)))
def lvF24 (r : Nat) : List Nat := getL lv24 r
noncomputable def bd24 : Code := (Try.f24.body).getD .skip
/- 33: placket/placketlaw18.up -/
def lv33 : Tr (List Nat) := (.node 1 [0]
 (.node 0 []
 .leaf .leaf) .leaf)
def lvF33 (r : Nat) : List Nat := getL lv33 r
noncomputable def bd33 : Code := (Try.f33.body).getD .skip
/- 34: placket/wish.Of -/
def lv34 : Tr (List Nat) := (.node 3 [2, 3]
 (.node 1 [0, 4]
 (.node 0 [0]
 .leaf .leaf) (.node 2 [0, 4, 10]
 .leaf .leaf)) (.node 5 [2, 3]
 (.node 4 [5]
 .leaf .leaf) .leaf))
def lvF34 (r : Nat) : List Nat := getL lv34 r
noncomputable def bd34 : Code := (Try.f34.body).getD .skip
/- 35: placket/placketref11.Count -/
def lv35 : Tr (List Nat) := (.node 5 [0, 3, 4, 16]
 (.node 2 [0, 3, 4]
 (.node 1 [0, 3]
 (.node 0 [0]
 .leaf .leaf) .leaf) (.node 4 [0, 3, 4]
 (.node 3 [0, 3, 4, 8]
 .leaf .leaf) .leaf)) (.node 8 [0, 3, 4]
 (.node 7 [0, 3, 4, 24]
 (.node 6 [0, 3, 4]
 .leaf .leaf) .leaf) (.node 9 [2]
 .leaf .leaf)))
def lvF35 (r : Nat) : List Nat := getL lv35 r
noncomputable def bd35 : Code := (Try.f35.body).getD .skip
/- 36: placket/placketlaw14.As -/
def lv36 : Tr (List Nat) := (.node 3 [0, 3, 4, 8]
 (.node 1 [0, 3]
 (.node 0 [0]
 .leaf .leaf) (.node 2 [0, 3, 4]
 .leaf .leaf)) (.node 5 [0, 3, 4]
 (.node 4 [0, 3, 4]
 .leaf .leaf) (.node 6 [2]
 .leaf .leaf)))
def lvF36 (r : Nat) : List Nat := getL lv36 r
noncomputable def bd36 : Code := (Try.f36.body).getD .skip
/- 37: placket/bound.Nodes -/
def lv37 : Tr (List Nat) := (.node 1 [2]
 (.node 0 [0]
 .leaf .leaf) .leaf)
def lvF37 (r : Nat) : List Nat := getL lv37 r
noncomputable def bd37 : Code := (Try.f37.body).getD .skip
/- 38: placket/bound.Changes -/
def lv38 : Tr (List Nat) := (.node 1 [4]
 (.node 0 [0, 1]
 .leaf .leaf) .leaf)
def lvF38 (r : Nat) : List Nat := getL lv38 r
noncomputable def bd38 : Code := (Try.f38.body).getD .skip
/- 39: placket/placketlaw14.up -/
def lv39 : Tr (List Nat) := (.node 3 [1, 4, 25]
 (.node 1 [1, 2]
 (.node 0 []
 .leaf .leaf) (.node 2 [1, 2, 4]
 .leaf .leaf)) (.node 5 [0]
 (.node 4 [0]
 .leaf .leaf) .leaf))
def lvF39 (r : Nat) : List Nat := getL lv39 r
noncomputable def bd39 : Code := (Try.f39.body).getD .skip
/- 40: placket/placketref11.Of -/
def lv40 : Tr (List Nat) := (.node 12 [0, 3, 4, 18, 42]
 (.node 6 [0, 3, 4, 18, 19]
 (.node 3 [0, 3, 4, 11]
 (.node 1 [0, 3]
 (.node 0 [0]
 .leaf .leaf) (.node 2 [0, 3, 4]
 .leaf .leaf)) (.node 5 [0, 3, 4, 18]
 (.node 4 [0, 3, 4]
 .leaf .leaf) .leaf)) (.node 9 [0, 3, 4]
 (.node 8 [0, 3, 4, 18, 30]
 (.node 7 [0, 3, 4]
 .leaf .leaf) .leaf) (.node 11 [0, 3, 4]
 (.node 10 [0, 3, 4, 18, 36]
 .leaf .leaf) .leaf))) (.node 19 [0, 3, 4, 5, 6, 7]
 (.node 16 [0, 3, 4, 5, 6, 69]
 (.node 14 [0, 3, 4, 5]
 (.node 13 [0, 3, 4, 42]
 .leaf .leaf) (.node 15 [0, 3, 4, 5, 6]
 .leaf .leaf)) (.node 18 [0, 3, 4, 5, 6]
 (.node 17 [0, 3, 4, 5, 6]
 .leaf .leaf) .leaf)) (.node 22 [0, 3, 4, 5]
 (.node 21 [0, 3, 5, 7]
 (.node 20 [0, 3, 5, 6, 7, 102]
 .leaf .leaf) .leaf) (.node 24 [2]
 (.node 23 [0, 3, 4]
 .leaf .leaf) .leaf))))
def lvF40 (r : Nat) : List Nat := getL lv40 r
noncomputable def bd40 : Code := (Try.f40.body).getD .skip
/- 41: placket/placketref11.Alike -/
def lv41 : Tr (List Nat) := (.node 5 [0, 1, 5]
 (.node 2 [4]
 (.node 1 [0, 1, 12]
 (.node 0 [0, 1]
 .leaf .leaf) .leaf) (.node 4 [0, 1, 5, 16]
 (.node 3 [0, 1, 5]
 .leaf .leaf) .leaf)) (.node 8 [0, 1, 5, 98]
 (.node 7 [0, 1, 5, 6, 7]
 (.node 6 [0, 1, 5, 6]
 .leaf .leaf) .leaf) (.node 10 [4]
 (.node 9 [4]
 .leaf .leaf) .leaf)))
def lvF41 (r : Nat) : List Nat := getL lv41 r
noncomputable def bd41 : Code := (Try.f41.body).getD .skip
/- 42: placket/wish.Count -/
def lv42 : Tr (List Nat) := (.node 5 [3, 5, 6, 7, 8, 19]
 (.node 2 [3, 6, 7, 8]
 (.node 1 [0, 3]
 (.node 0 [0]
 .leaf .leaf) .leaf) (.node 4 [3, 5, 6, 7, 8]
 (.node 3 [3, 6, 7, 8, 9]
 .leaf .leaf) .leaf)) (.node 8 [3, 6, 7, 8]
 (.node 7 [3, 5, 6, 7, 8, 24]
 (.node 6 [3, 5, 6, 7, 8]
 .leaf .leaf) .leaf) (.node 10 [2]
 (.node 9 [3, 6, 7, 8]
 .leaf .leaf) .leaf)))
def lvF42 (r : Nat) : List Nat := getL lv42 r
noncomputable def bd42 : Code := (Try.f42.body).getD .skip
/- 43: placket/wish.Same -/
def lv43 : Tr (List Nat) := (.node 1 [4]
 (.node 0 [0, 1]
 .leaf .leaf) .leaf)
def lvF43 (r : Nat) : List Nat := getL lv43 r
noncomputable def bd43 : Code := (Try.f43.body).getD .skip
/- 49: placket/wish.Back -/
def lv49 : Tr (List Nat) := (.node 8 [3, 5, 6, 7, 8, 13, 20]
 (.node 4 [3, 5, 6, 7, 8]
 (.node 2 [3, 6, 7, 8]
 (.node 1 [0, 3]
 (.node 0 [0]
 .leaf .leaf) .leaf) (.node 3 [3, 6, 7, 8, 9]
 .leaf .leaf)) (.node 6 [3, 5, 6, 7, 8, 13, 14]
 (.node 5 [3, 5, 6, 7, 8, 13]
 .leaf .leaf) (.node 7 [3, 6, 7, 8]
 .leaf .leaf))) (.node 12 [3, 6, 7, 8, 34]
 (.node 10 [3, 6, 7, 8, 13, 28]
 (.node 9 [3, 6, 7, 8]
 .leaf .leaf) (.node 11 [3, 6, 7, 8]
 .leaf .leaf)) (.node 14 [3, 6, 7, 8]
 (.node 13 [3, 6, 7, 8]
 .leaf .leaf) (.node 15 [2]
 .leaf .leaf))))
def lvF49 (r : Nat) : List Nat := getL lv49 r
noncomputable def bd49 : Code := (Try.f49.body).getD .skip
/- 59: placket/ins.May -/
def lv59 : Tr (List Nat) := (.node 8 [1, 4, 41]
 (.node 4 [1, 4, 21]
 (.node 2 [1, 4, 5]
 (.node 1 [1, 4]
 (.node 0 [1]
 .leaf .leaf) .leaf) (.node 3 [2]
 .leaf .leaf)) (.node 6 [1, 4, 31]
 (.node 5 [2]
 .leaf .leaf) (.node 7 [2]
 .leaf .leaf))) (.node 12 [1, 4, 52]
 (.node 10 [2]
 (.node 9 [1, 4, 41]
 .leaf .leaf) (.node 11 [1, 4, 52]
 .leaf .leaf)) (.node 14 [2]
 (.node 13 [1, 52]
 .leaf .leaf) (.node 15 [2]
 .leaf .leaf))))
def lvF59 (r : Nat) : List Nat := getL lv59 r
noncomputable def bd59 : Code := (Try.f59.body).getD .skip
/- 62: placket/placketref11.wrong -/
def lv62 : Tr (List Nat) := (.node 13 [5, 8, 9, 10]
 (.node 6 [4]
 (.node 3 [0, 1, 5, 20]
 (.node 1 [0, 1, 5]
 (.node 0 [0, 1]
 .leaf .leaf) (.node 2 [0, 1, 5, 6]
 .leaf .leaf)) (.node 5 [0, 1, 5, 23]
 (.node 4 [4]
 .leaf .leaf) .leaf)) (.node 10 [4]
 (.node 8 [0, 1, 5, 8, 35]
 (.node 7 [0, 1, 5, 8]
 .leaf .leaf) (.node 9 [37]
 .leaf .leaf)) (.node 12 [5, 8, 9]
 (.node 11 [4]
 .leaf .leaf) .leaf))) (.node 20 [5, 8, 9, 10, 11, 12, 61]
 (.node 17 [5, 8, 9, 10, 11, 12]
 (.node 15 [5, 8, 9, 10, 11, 44]
 (.node 14 [5, 8, 9, 10, 11]
 .leaf .leaf) (.node 16 [5, 8, 9, 10, 11]
 .leaf .leaf)) (.node 19 [4]
 (.node 18 [5, 8, 9, 10, 11, 12, 53]
 .leaf .leaf) .leaf)) (.node 24 [92]
 (.node 22 [5, 8, 85]
 (.node 21 [5, 8, 9, 10, 11]
 .leaf .leaf) (.node 23 [4]
 .leaf .leaf)) (.node 26 [4]
 (.node 25 [4]
 .leaf .leaf) .leaf))))
def lvF62 (r : Nat) : List Nat := getL lv62 r
noncomputable def bd62 : Code := (Try.f62.body).getD .skip
/- 63: placket/placketref11.begin -/
def lv63 : Tr (List Nat) := (.node 6 [0, 1, 6, 7]
 (.node 3 [0, 1, 6, 7, 10]
 (.node 1 [0, 1, 6]
 (.node 0 [0, 1]
 .leaf .leaf) (.node 2 [0, 1, 6, 7]
 .leaf .leaf)) (.node 5 [0, 1, 6, 7, 18]
 (.node 4 [0, 1, 6, 7]
 .leaf .leaf) .leaf)) (.node 9 [6, 42]
 (.node 8 [0, 1, 6, 7]
 (.node 7 [0, 1, 6, 7, 34]
 .leaf .leaf) .leaf) (.node 11 [4, 5]
 (.node 10 [4, 5]
 .leaf .leaf) .leaf)))
def lvF63 (r : Nat) : List Nat := getL lv63 r
noncomputable def bd63 : Code := (Try.f63.body).getD .skip
/- 66: placket/name.Text -/
def lv66 : Tr (List Nat) := (.node 4 [0, 5, 6, 18]
 (.node 2 [0, 5, 6, 7]
 (.node 1 [0, 5, 6]
 (.node 0 [0]
 .leaf .leaf) .leaf) (.node 3 [0, 3, 5, 6]
 .leaf .leaf)) (.node 6 [0, 5, 6]
 (.node 5 [2]
 .leaf .leaf) (.node 7 [2]
 .leaf .leaf)))
def lvF66 (r : Nat) : List Nat := getL lv66 r
noncomputable def bd66 : Code := (Try.f66.body).getD .skip
/- 67: placket/name.May -/
def lv67 : Tr (List Nat) := (.node 5 [0, 3, 19, 20]
 (.node 2 [2]
 (.node 1 [0, 17]
 (.node 0 [0]
 .leaf .leaf) .leaf) (.node 4 [0, 19, 20, 21]
 (.node 3 [0, 19, 20]
 .leaf .leaf) .leaf)) (.node 8 [2]
 (.node 7 [0, 19, 20, 40]
 (.node 6 [0, 4, 19, 20]
 .leaf .leaf) .leaf) (.node 10 [2]
 (.node 9 [0, 19, 20]
 .leaf .leaf) .leaf)))
def lvF67 (r : Nat) : List Nat := getL lv67 r
noncomputable def bd67 : Code := (Try.f67.body).getD .skip
/- 69: placket/name.Void -/
def lv69 : Tr (List Nat) := (.node 4 [3, 4]
 (.node 2 [3, 4]
 (.node 1 [3]
 (.node 0 [0]
 .leaf .leaf) .leaf) (.node 3 [3, 4]
 .leaf .leaf)) (.node 6 [2]
 (.node 5 [4]
 .leaf .leaf) (.node 7 [2]
 .leaf .leaf)))
def lvF69 (r : Nat) : List Nat := getL lv69 r
noncomputable def bd69 : Code := (Try.f69.body).getD .skip
/- 72: placket/placketref01.Text -/
def lv72 : Tr (List Nat) := (.node 3 [0, 3]
 (.node 1 [0, 3]
 (.node 0 [0]
 .leaf .leaf) (.node 2 [0, 3, 7]
 .leaf .leaf)) (.node 5 [2]
 (.node 4 [0, 3, 19]
 .leaf .leaf) (.node 6 [2]
 .leaf .leaf)))
def lvF72 (r : Nat) : List Nat := getL lv72 r
noncomputable def bd72 : Code := (Try.f72.body).getD .skip
/- 73: placket/placketref01.Name -/
def lv73 : Tr (List Nat) := (.node 5 [0, 3]
 (.node 2 [2]
 (.node 1 [0, 12]
 (.node 0 [0]
 .leaf .leaf) .leaf) (.node 4 [0, 3, 16]
 (.node 3 [0, 3]
 .leaf .leaf) .leaf)) (.node 8 [2]
 (.node 7 [0, 3, 46]
 (.node 6 [0, 3, 4]
 .leaf .leaf) .leaf) (.node 9 [2]
 .leaf .leaf)))
def lvF73 (r : Nat) : List Nat := getL lv73 r
noncomputable def bd73 : Code := (Try.f73.body).getD .skip
/- 75: placket/placketref01.Void -/
def lv75 : Tr (List Nat) := (.node 1 [2]
 (.node 0 [0]
 .leaf .leaf) .leaf)
def lvF75 (r : Nat) : List Nat := getL lv75 r
noncomputable def bd75 : Code := (Try.f75.body).getD .skip
/- 78: placket/placketref01.Same -/
def lv78 : Tr (List Nat) := (.node 4 [0, 1, 5, 14]
 (.node 2 [4]
 (.node 1 [0, 1, 10]
 (.node 0 [0, 1]
 .leaf .leaf) .leaf) (.node 3 [0, 1, 5]
 .leaf .leaf)) (.node 7 [4]
 (.node 6 [0, 1, 5, 25]
 (.node 5 [0, 1, 5]
 .leaf .leaf) .leaf) (.node 8 [4]
 .leaf .leaf)))
def lvF78 (r : Nat) : List Nat := getL lv78 r
noncomputable def bd78 : Code := (Try.f78.body).getD .skip
/- 79: placket/wish.some -/
def lv79 : Tr (List Nat) := (.node 3 [0, 4, 5]
 (.node 1 [0, 4]
 (.node 0 [0]
 .leaf .leaf) (.node 2 [0, 4, 15]
 .leaf .leaf)) (.node 5 [0, 4]
 (.node 4 [0, 4, 5]
 .leaf .leaf) (.node 6 [2, 3]
 .leaf .leaf)))
def lvF79 (r : Nat) : List Nat := getL lv79 r
noncomputable def bd79 : Code := (Try.f79.body).getD .skip
/- 80: placket/placketref11.tells -/
def lv80 : Tr (List Nat) := (.node 1 [2]
 (.node 0 [0]
 .leaf .leaf) .leaf)
def lvF80 (r : Nat) : List Nat := getL lv80 r
noncomputable def bd80 : Code := (Try.f80.body).getD .skip
/- 81: placket/placketref11.end -/
def lv81 : Tr (List Nat) := (.node 8 [0, 5, 6]
 (.node 4 [4]
 (.node 2 [0, 1, 26]
 (.node 1 [0, 1, 12]
 (.node 0 [0, 1]
 .leaf .leaf) .leaf) (.node 3 [0, 1]
 .leaf .leaf)) (.node 6 [0, 5, 6]
 (.node 5 [0, 1, 5]
 .leaf .leaf) (.node 7 [0, 5, 6, 34]
 .leaf .leaf))) (.node 12 [0, 5, 6]
 (.node 10 [0, 5, 6]
 (.node 9 [0, 5, 6, 42]
 .leaf .leaf) (.node 11 [0, 5, 6, 50]
 .leaf .leaf)) (.node 14 [4]
 (.node 13 [0, 5, 6, 54]
 .leaf .leaf) (.node 15 [4]
 .leaf .leaf))))
def lvF81 (r : Nat) : List Nat := getL lv81 r
noncomputable def bd81 : Code := (Try.f81.body).getD .skip
/- 82: slices.EqualFunc[[]placket/wish.Want,[]placket/wish.Want,placket/wish.Want,placket/wish.Want] -/
def lv82 : Tr (List Nat) := (.node 5 [1, 2, 7, 8, 15, 16, 17]
 (.node 2 [6]
 (.node 1 [0, 1, 2, 14]
 (.node 0 [0, 1, 2]
 .leaf .leaf) .leaf) (.node 4 [1, 2, 15, 16, 17, 18]
 (.node 3 [1, 2, 15, 16, 17]
 .leaf .leaf) .leaf)) (.node 8 [6]
 (.node 7 [1, 2, 15, 16, 17, 30]
 (.node 6 [1, 2, 8, 9, 15, 16, 17]
 .leaf .leaf) .leaf) (.node 10 [6]
 (.node 9 [1, 2, 15, 16, 17]
 .leaf .leaf) .leaf)))
def lvF82 (r : Nat) : List Nat := getL lv82 r
noncomputable def bd82 : Code := (Try.f82.body).getD .skip
/- 83: placket/wish.same -/
def lv83 : Tr (List Nat) := (.node 1 [4]
 (.node 0 [2, 3]
 .leaf .leaf) .leaf)
def lvF83 (r : Nat) : List Nat := getL lv83 r
noncomputable def bd83 : Code := (Try.f83.body).getD .skip
/- 87: placket/wish.element -/
def lv87 : Tr (List Nat) := (.node 8 [1, 3, 4, 6, 7, 20, 21, 22]
 (.node 4 [1, 3, 4]
 (.node 2 [1, 3, 15]
 (.node 1 [1, 3]
 (.node 0 [1]
 .leaf .leaf) .leaf) (.node 3 [1, 3]
 .leaf .leaf)) (.node 6 [1, 3, 4, 20, 21, 22, 23]
 (.node 5 [1, 3, 4, 20, 21, 22]
 .leaf .leaf) (.node 7 [1, 3, 4, 6, 20, 21, 22]
 .leaf .leaf))) (.node 12 [1, 3, 4, 20, 21, 22]
 (.node 10 [1, 3, 4, 6, 7, 20, 21, 22]
 (.node 9 [1, 3, 4, 6, 7, 20, 21, 22, 27]
 .leaf .leaf) (.node 11 [1, 3, 4, 20, 21, 22]
 .leaf .leaf)) (.node 14 [2]
 (.node 13 [1, 4, 40]
 .leaf .leaf) (.node 15 [2]
 .leaf .leaf))))
def lvF87 (r : Nat) : List Nat := getL lv87 r
noncomputable def bd87 : Code := (Try.f87.body).getD .skip
/- 95: placket/placketref11.May -/
def lv95 : Tr (List Nat) := (.node 10 [1, 3, 5, 6, 20, 37]
 (.node 5 [1, 3, 4, 5, 6, 20]
 (.node 2 [1, 3, 4]
 (.node 1 [1, 3]
 (.node 0 [1]
 .leaf .leaf) .leaf) (.node 4 [1, 3, 4, 5, 6]
 (.node 3 [1, 3, 4, 5]
 .leaf .leaf) .leaf)) (.node 8 [1, 3, 4, 5, 6, 20, 31]
 (.node 7 [2]
 (.node 6 [1, 3, 4, 5, 6, 20, 21]
 .leaf .leaf) .leaf) (.node 9 [2]
 .leaf .leaf))) (.node 15 [1, 20, 52]
 (.node 13 [1, 3, 6, 20, 45]
 (.node 12 [1, 3, 6, 20, 45]
 (.node 11 [2]
 .leaf .leaf) .leaf) (.node 14 [2]
 .leaf .leaf)) (.node 18 [2]
 (.node 17 [1, 52]
 (.node 16 [1, 20, 52]
 .leaf .leaf) .leaf) (.node 19 [2]
 .leaf .leaf))))
def lvF95 (r : Nat) : List Nat := getL lv95 r
noncomputable def bd95 : Code := (Try.f95.body).getD .skip
/- 97: placket/ins.Tells -/
def lv97 : Tr (List Nat) := (.node 1 [2]
 (.node 0 [0]
 .leaf .leaf) .leaf)
def lvF97 (r : Nat) : List Nat := getL lv97 r
noncomputable def bd97 : Code := (Try.f97.body).getD .skip
/- 101: placket/placketref11.attr -/
def lv101 : Tr (List Nat) := (.node 6 [0, 1, 5, 6]
 (.node 3 [0, 1, 5, 6, 18]
 (.node 1 [0, 1, 5]
 (.node 0 [0, 1]
 .leaf .leaf) (.node 2 [0, 1, 5, 6]
 .leaf .leaf)) (.node 5 [4]
 (.node 4 [0, 1, 5, 6, 29]
 .leaf .leaf) .leaf)) (.node 10 [53]
 (.node 8 [0, 6, 39]
 (.node 7 [0, 1, 5, 6]
 .leaf .leaf) (.node 9 [4]
 .leaf .leaf)) (.node 12 [4]
 (.node 11 [4]
 .leaf .leaf) .leaf)))
def lvF101 (r : Nat) : List Nat := getL lv101 r
noncomputable def bd101 : Code := (Try.f101.body).getD .skip
/- 102: placket/placketref11.ahead -/
def lv102 : Tr (List Nat) := (.node 7 [0, 1, 7, 8, 9, 31]
 (.node 3 [0, 1, 5, 7, 8]
 (.node 1 [0, 1, 5]
 (.node 0 [0, 1]
 .leaf .leaf) (.node 2 [0, 1, 5, 7]
 .leaf .leaf)) (.node 5 [0, 1, 7, 8, 9, 19]
 (.node 4 [0, 1, 7, 8, 9]
 .leaf .leaf) (.node 6 [0, 1, 7, 8, 9]
 .leaf .leaf))) (.node 11 [0, 1, 7, 8, 9, 52]
 (.node 9 [0, 1, 7, 8, 9, 44]
 (.node 8 [0, 1, 7, 8, 9]
 .leaf .leaf) (.node 10 [0, 1, 7, 8, 9]
 .leaf .leaf)) (.node 13 [4]
 (.node 12 [0, 1, 7, 8, 9]
 .leaf .leaf) .leaf)))
def lvF102 (r : Nat) : List Nat := getL lv102 r
noncomputable def bd102 : Code := (Try.f102.body).getD .skip
/- 104: placket/name.letter -/
def lv104 : Tr (List Nat) := (.node 1 [2]
 (.node 0 [0]
 .leaf .leaf) .leaf)
def lvF104 (r : Nat) : List Nat := getL lv104 r
noncomputable def bd104 : Code := (Try.f104.body).getD .skip
/- 107: placket/placketref01.letter -/
def lv107 : Tr (List Nat) := (.node 1 [2]
 (.node 0 [0]
 .leaf .leaf) .leaf)
def lvF107 (r : Nat) : List Nat := getL lv107 r
noncomputable def bd107 : Code := (Try.f107.body).getD .skip
/- 108: slices.Equal[[]placket/api.Attr,placket/api.Attr] -/
def lv108 : Tr (List Nat) := (.node 5 [0, 1, 5, 12, 13]
 (.node 2 [4]
 (.node 1 [0, 1, 10]
 (.node 0 [0, 1]
 .leaf .leaf) .leaf) (.node 4 [0, 1, 12, 13, 14]
 (.node 3 [0, 1, 12, 13]
 .leaf .leaf) .leaf)) (.node 8 [0, 1, 12, 13]
 (.node 7 [4]
 (.node 6 [0, 1, 12, 13, 24]
 .leaf .leaf) .leaf) (.node 9 [4]
 .leaf .leaf)))
def lvF108 (r : Nat) : List Nat := getL lv108 r
noncomputable def bd108 : Code := (Try.f108.body).getD .skip
/- 109: placket/wish.one -/
def lv109 : Tr (List Nat) := (.node 8 [2, 3]
 (.node 4 [2, 3]
 (.node 2 [0, 2, 4, 12]
 (.node 1 [0, 2, 4]
 (.node 0 [0, 2]
 .leaf .leaf) .leaf) (.node 3 [0, 2, 4, 12, 13]
 .leaf .leaf)) (.node 6 [2, 3]
 (.node 5 [0, 2, 4, 12, 19]
 .leaf .leaf) (.node 7 [0, 2, 4, 23]
 .leaf .leaf))) (.node 12 [0, 2, 4, 5]
 (.node 10 [0, 2, 4, 5, 41]
 (.node 9 [0, 2, 4, 5]
 .leaf .leaf) (.node 11 [0, 2, 4, 5]
 .leaf .leaf)) (.node 14 [0, 2, 5]
 (.node 13 [0, 2, 5, 65]
 .leaf .leaf) (.node 15 [2, 3]
 .leaf .leaf))))
def lvF109 (r : Nat) : List Nat := getL lv109 r
noncomputable def bd109 : Code := (Try.f109.body).getD .skip
noncomputable def fnT : Tr Func := (.node 62 Try.f62
 (.node 34 Try.f34
 (.node 18 Try.f18
 (.node 8 Try.f8
 (.node 7 Try.f7
 (.node 5 Try.f5
 .leaf .leaf) .leaf) (.node 12 Try.f12
 (.node 9 Try.f9
 .leaf .leaf) .leaf)) (.node 22 Try.f22
 (.node 20 Try.f20
 (.node 19 Try.f19
 .leaf .leaf) .leaf) (.node 33 Try.f33
 (.node 24 Try.f24
 .leaf .leaf) .leaf))) (.node 40 Try.f40
 (.node 37 Try.f37
 (.node 36 Try.f36
 (.node 35 Try.f35
 .leaf .leaf) .leaf) (.node 39 Try.f39
 (.node 38 Try.f38
 .leaf .leaf) .leaf)) (.node 43 Try.f43
 (.node 42 Try.f42
 (.node 41 Try.f41
 .leaf .leaf) .leaf) (.node 59 Try.f59
 (.node 49 Try.f49
 .leaf .leaf) .leaf)))) (.node 82 Try.f82
 (.node 73 Try.f73
 (.node 67 Try.f67
 (.node 66 Try.f66
 (.node 63 Try.f63
 .leaf .leaf) .leaf) (.node 72 Try.f72
 (.node 69 Try.f69
 .leaf .leaf) .leaf)) (.node 79 Try.f79
 (.node 78 Try.f78
 (.node 75 Try.f75
 .leaf .leaf) .leaf) (.node 81 Try.f81
 (.node 80 Try.f80
 .leaf .leaf) .leaf))) (.node 102 Try.f102
 (.node 95 Try.f95
 (.node 87 Try.f87
 (.node 83 Try.f83
 .leaf .leaf) .leaf) (.node 101 Try.f101
 (.node 97 Try.f97
 .leaf .leaf) .leaf)) (.node 108 Try.f108
 (.node 107 Try.f107
 (.node 104 Try.f104
 .leaf .leaf) .leaf) (.node 109 Try.f109
 .leaf .leaf)))))
def liveT : Tr (Tr (List Nat)) := (.node 62 lv62
 (.node 34 lv34
 (.node 18 lv18
 (.node 8 lv8
 (.node 7 lv7
 (.node 5 lv5
 .leaf .leaf) .leaf) (.node 12 lv12
 (.node 9 lv9
 .leaf .leaf) .leaf)) (.node 22 lv22
 (.node 20 lv20
 (.node 19 lv19
 .leaf .leaf) .leaf) (.node 33 lv33
 (.node 24 lv24
 .leaf .leaf) .leaf))) (.node 40 lv40
 (.node 37 lv37
 (.node 36 lv36
 (.node 35 lv35
 .leaf .leaf) .leaf) (.node 39 lv39
 (.node 38 lv38
 .leaf .leaf) .leaf)) (.node 43 lv43
 (.node 42 lv42
 (.node 41 lv41
 .leaf .leaf) .leaf) (.node 59 lv59
 (.node 49 lv49
 .leaf .leaf) .leaf)))) (.node 82 lv82
 (.node 73 lv73
 (.node 67 lv67
 (.node 66 lv66
 (.node 63 lv63
 .leaf .leaf) .leaf) (.node 72 lv72
 (.node 69 lv69
 .leaf .leaf) .leaf)) (.node 79 lv79
 (.node 78 lv78
 (.node 75 lv75
 .leaf .leaf) .leaf) (.node 81 lv81
 (.node 80 lv80
 .leaf .leaf) .leaf))) (.node 102 lv102
 (.node 95 lv95
 (.node 87 lv87
 (.node 83 lv83
 .leaf .leaf) .leaf) (.node 101 lv101
 (.node 97 lv97
 .leaf .leaf) .leaf)) (.node 108 lv108
 (.node 107 lv107
 (.node 104 lv104
 .leaf .leaf) .leaf) (.node 109 lv109
 .leaf .leaf)))))
def consT : Tr (List Nat) := (.node 79 [2]
 (.node 34 [2]
 .leaf .leaf) (.node 109 [2]
 .leaf .leaf))
def pureT : Tr Unit := .leaf
def extT : Tr (List AV → Seg → Prog) := (.node 23 (yCheck 39 59)
 .leaf .leaf)
def liveOf (f : Nat) : Nat → List Nat := match liveT.get f with
  | some t => getL t
  | none => fun _ => []
noncomputable def fnF (f : Nat) : Option Func := fnT.get f
def tyF (t : Nat) : Option Ty := tyT.get t
def consF (f : Nat) : List Nat := getL consT f
def pureF (f : Nat) : Bool := (pureT.get f).isSome
def extF (f : Nat) : Option (List AV → Seg → Prog) := extT.get f
noncomputable def envV (A : Ar) : Env := { A := A, fn := fnF, ty := tyF, live := liveOf, cons := consF, pure := pureF, ext := extF }
end Go.Va
