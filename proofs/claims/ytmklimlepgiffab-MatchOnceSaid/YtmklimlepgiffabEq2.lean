/- The functions that the statement reaches, by equations: no statement of its own. -/
import Derived.Test.YtmklimlepgiffabEq1
import Derived.Test.YtmklimlepgiffabProg
set_option linter.unusedVariables false
set_option linter.unusedSimpArgs false
set_option linter.unusedSectionVars false
set_option maxRecDepth 20000
namespace Go.Va
open Go.Proofs
def ty3 : Ty := ⟨(.int .i64), 1, 8, [.s (.int .i64 0)], 0, [], []⟩
def ty4 : Ty := ⟨.bool, 1, 1, [.s (.bool false)], 0, [], []⟩
def ty5 : Ty := ⟨(.int .u8), 1, 1, [.s (.int .u8 0)], 0, [], []⟩
def ty9 : Ty := ⟨.str, 1, 16, [.s (.string ⟨#[]⟩)], 0, [], []⟩
def ty24 : Ty := ⟨.slice, 1, 24, [.sl 3 [] .full], 38, [], []⟩
def ty26 : Ty := ⟨.iface, 1, 16, [.s .nilIface], 0, [], []⟩
def ty38 : Ty := ⟨.struct, 3, 40, [.s (.int .i64 0), .s (.string ⟨#[]⟩), .s (.string ⟨#[]⟩)], 0, [some (0, 1), some (1, 1), some (2, 1)], [(.int .i64), .str, .str]⟩
def ty39 : Ty := ⟨(.int .i64), 1, 8, [.s (.int .i64 0)], 0, [], []⟩
def ty43 : Ty := ⟨.slice, 1, 24, [.sl 3 [] .full], 120, [], []⟩
def ty51 : Ty := ⟨.slice, 1, 24, [.sl 6 [] .full], 80, [], []⟩
def ty55 : Ty := ⟨.slice, 1, 24, [.sl 6 [] .full], 117, [], []⟩
def ty64 : Ty := ⟨.slice, 1, 24, [.sl 2 [] .full], 69, [], []⟩
def ty67 : Ty := ⟨.slice, 1, 24, [.sl 2 [] .full], 70, [], []⟩
def ty69 : Ty := ⟨.struct, 2, 32, [.s (.string ⟨#[]⟩), .s (.string ⟨#[]⟩)], 0, [some (0, 1), some (1, 1)], [.str, .str]⟩
def ty70 : Ty := ⟨.struct, 2, 32, [.s (.string ⟨#[]⟩), .s (.string ⟨#[]⟩)], 0, [some (0, 1), some (1, 1)], [.str, .str]⟩
def ty71 : Ty := ⟨.slice, 1, 24, [.sl 1 [] .full], 3, [], []⟩
def ty73 : Ty := ⟨.struct, 3, 72, [.sl 1 [] .full, .sl 1 [] .full, .sl 1 [] .full], 0, [some (0, 1), some (1, 1), some (2, 1)], []⟩
def ty80 : Ty := ⟨.struct, 6, 104, [.s (.int .i64 0), .s (.string ⟨#[]⟩), .s (.string ⟨#[]⟩), .s (.string ⟨#[]⟩), .sl 3 [] .full, .sl 6 [] .full], 0, [some (0, 1), some (1, 1), some (2, 1), some (3, 1), some (4, 1), some (5, 1)], []⟩
def ty117 : Ty := ⟨.struct, 6, 104, [.s (.int .i64 0), .s (.string ⟨#[]⟩), .s (.string ⟨#[]⟩), .s (.string ⟨#[]⟩), .sl 3 [] .full, .sl 6 [] .full], 0, [some (0, 1), some (1, 1), some (2, 1), some (3, 1), some (4, 1), some (5, 1)], []⟩
def ty120 : Ty := ⟨.struct, 3, 40, [.s (.string ⟨#[]⟩), .s (.string ⟨#[]⟩), .s (.bool false)], 0, [some (0, 1), some (1, 1), some (2, 1)], [.str, .str, .bool]⟩
def ty125 : Ty := ⟨.slice, 1, 24, [.sl 1 [] .full], 4, [], []⟩
def tyT : Tr Ty := (.node 55 ty55
 (.node 26 ty26
 (.node 5 ty5
 (.node 4 ty4
 (.node 3 ty3
 .leaf .leaf) .leaf) (.node 24 ty24
 (.node 9 ty9
 .leaf .leaf) .leaf)) (.node 43 ty43
 (.node 39 ty39
 (.node 38 ty38
 .leaf .leaf) .leaf) (.node 51 ty51
 .leaf .leaf))) (.node 73 ty73
 (.node 69 ty69
 (.node 67 ty67
 (.node 64 ty64
 .leaf .leaf) .leaf) (.node 71 ty71
 (.node 70 ty70
 .leaf .leaf) .leaf)) (.node 120 ty120
 (.node 117 ty117
 (.node 80 ty80
 .leaf .leaf) .leaf) (.node 125 ty125
 .leaf .leaf))))
/- 5: placket/placketlaw13.ValidTells -/
def lv5 : Tr (List Nat) := (.node 2 [0, 3, 7]
 (.node 1 [0, 3]
 (.node 0 [0]
 .leaf .leaf) .leaf) (.node 4 [2]
 (.node 3 [2]
 .leaf .leaf) .leaf))
def lvF5 (r : Nat) : List Nat := getL lv5 r
noncomputable def bd5 : Code := (Try.f5.body).getD .skip
/- 10: placket/placketlaw16.MatchTells -/
def lv10 : Tr (List Nat) := (.node 7 [0, 5, 6, 8, 9, 31]
 (.node 3 [0, 5, 6, 26]
 (.node 1 [0, 1, 5]
 (.node 0 [0, 1]
 .leaf .leaf) (.node 2 [0, 5, 6, 7]
 .leaf .leaf)) (.node 5 [0, 5, 6, 8]
 (.node 4 [4]
 .leaf .leaf) (.node 6 [0, 5, 6, 8, 9]
 .leaf .leaf))) (.node 11 [0, 5, 6, 8, 9]
 (.node 9 [0, 5, 6, 8, 9, 65]
 (.node 8 [0, 5, 6, 8, 9]
 .leaf .leaf) (.node 10 [4]
 .leaf .leaf)) (.node 13 [5, 10, 11, 12, 13]
 (.node 12 [5, 6, 8, 10]
 .leaf .leaf) (.node 14 [4]
 .leaf .leaf))))
def lvF10 (r : Nat) : List Nat := getL lv10 r
noncomputable def bd10 : Code := (Try.f10.body).getD .skip
/- 11: placket/placketlaw16.MatchOnce -/
def lv11 : Tr (List Nat) := (.node 19 [0, 5, 6, 8, 9, 10, 11, 12, 115]
 (.node 9 [0, 5, 6, 8, 9, 10]
 (.node 4 [4]
 (.node 2 [0, 5, 6, 7]
 (.node 1 [0, 1, 5]
 (.node 0 [0, 1]
 .leaf .leaf) .leaf) (.node 3 [0, 5, 6, 28]
 .leaf .leaf)) (.node 7 [4]
 (.node 6 [0, 5, 6, 8, 38]
 (.node 5 [0, 5, 6, 8]
 .leaf .leaf) .leaf) (.node 8 [0, 5, 6, 8, 9]
 .leaf .leaf))) (.node 14 [4]
 (.node 12 [0, 5, 6, 8, 9, 10, 11]
 (.node 11 [0, 5, 6, 8, 9, 10]
 (.node 10 [0, 5, 6, 8, 9, 10, 45]
 .leaf .leaf) .leaf) (.node 13 [0, 5, 6, 8, 9, 10, 11, 60]
 .leaf .leaf)) (.node 17 [0, 5, 6, 8, 9, 10, 11, 12, 82]
 (.node 16 [0, 5, 6, 8, 9, 10, 11, 12]
 (.node 15 [0, 5, 6, 8, 9, 10, 11, 78]
 .leaf .leaf) .leaf) (.node 18 [0, 5, 6, 8, 9, 10, 11, 12]
 .leaf .leaf)))) (.node 29 [0, 5, 9, 13, 14, 206]
 (.node 24 [4]
 (.node 22 [0, 5, 6, 8, 9, 10, 11]
 (.node 21 [0, 5, 6, 8, 9, 10, 11, 117]
 (.node 20 [4]
 .leaf .leaf) .leaf) (.node 23 [0, 5, 6, 8, 9, 10, 179]
 .leaf .leaf)) (.node 27 [0, 5, 9, 13, 14, 190]
 (.node 26 [0, 5, 9, 13, 14]
 (.node 25 [0, 5, 9, 13]
 .leaf .leaf) .leaf) (.node 28 [0, 5, 9, 13, 14]
 .leaf .leaf))) (.node 34 [0, 5, 9, 15]
 (.node 32 [0, 5, 9, 15]
 (.node 31 [0, 5, 9, 13, 14]
 (.node 30 [4]
 .leaf .leaf) .leaf) (.node 33 [0, 5, 9, 15, 219]
 .leaf .leaf)) (.node 36 [4]
 (.node 35 [0, 5, 9, 15, 226]
 .leaf .leaf) (.node 37 [4]
 .leaf .leaf)))))
def lvF11 (r : Nat) : List Nat := getL lv11 r
noncomputable def bd11 : Code := (Try.f11.body).getD .skip
/- 18: placket/placketlaw00.Code -/
def lv18 : Tr (List Nat) := (.node 4 [0, 3, 7]
 (.node 2 [2]
 (.node 1 [0, 5]
 (.node 0 [0]
 .leaf .leaf) .leaf) (.node 3 [0, 3]
 .leaf .leaf)) (.node 7 [2]
 (.node 6 [0, 3, 13]
 (.node 5 [0, 3]
 .leaf .leaf) .leaf) (.node 8 [2]
 .leaf .leaf)))
def lvF18 (r : Nat) : List Nat := getL lv18 r
noncomputable def bd18 : Code := (Try.f18.body).getD .skip
/- 20: placket/placketlaw12.Few -/
def lv20 : Tr (List Nat) := (.node 4 [0, 3, 29]
 (.node 2 [0, 3, 11]
 (.node 1 [0, 3]
 (.node 0 [0]
 .leaf .leaf) .leaf) (.node 3 [0, 3]
 .leaf .leaf)) (.node 7 [2]
 (.node 6 [32]
 (.node 5 [2]
 .leaf .leaf) .leaf) (.node 8 [2]
 .leaf .leaf)))
def lvF20 (r : Nat) : List Nat := getL lv20 r
noncomputable def bd20 : Code := (Try.f20.body).getD .skip
/- 22: placket/placketlaw13.up -/
def lv22 : Tr (List Nat) := (.node 3 [2, 13]
 (.node 1 [1]
 (.node 0 []
 .leaf .leaf) (.node 2 [1, 2]
 .leaf .leaf)) (.node 5 [0]
 (.node 4 [0]
 .leaf .leaf) .leaf))
def lvF22 (r : Nat) : List Nat := getL lv22 r
noncomputable def bd22 : Code := (Try.f22.body).getD .skip
/- 24: placket/placketref11.Check -/
def lv24 : Tr (List Nat) := (.node 6 [0, 3, 4]
 (.node 3 [0, 3]
 (.node 1 [0, 9]
 (.node 0 [0]
 .leaf .leaf) (.node 2 [2]
 .leaf .leaf)) (.node 5 [0, 3]
 (.node 4 [0, 3, 13]
 .leaf .leaf) .leaf)) (.node 10 [30]
 (.node 8 [2]
 (.node 7 [0, 3, 4, 20]
 .leaf .leaf) (.node 9 [6]
 .leaf .leaf)) (.node 12 [2]
 (.node 11 [2]
 .leaf .leaf) .leaf)))
def lvF24 (r : Nat) : List Nat := getL lv24 r
noncomputable def bd24 : Code := (Try.f24.body).getD .skip
/- 34: placket/wish.Of -/
def lv34 : Tr (List Nat) := (.node 3 [2, 3]
 (.node 1 [0, 4]
 (.node 0 [0]
 .leaf .leaf) (.node 2 [0, 4, 10]
 .leaf .leaf)) (.node 5 [2, 3]
 (.node 4 [5]
 .leaf .leaf) .leaf))
def lvF34 (r : Nat) : List Nat := getL lv34 r
noncomputable def bd34 : Code := (Try.f34.body).getD .skip
/- 36: placket/placketlaw14.As -/
def lv36 : Tr (List Nat) := (.node 3 [0, 3, 4, 8]
 (.node 1 [0, 3]
 (.node 0 [0]
 .leaf .leaf) (.node 2 [0, 3, 4]
 .leaf .leaf)) (.node 5 [0, 3, 4]
 (.node 4 [0, 3, 4]
 .leaf .leaf) (.node 6 [2]
 .leaf .leaf)))
def lvF36 (r : Nat) : List Nat := getL lv36 r
noncomputable def bd36 : Code := (Try.f36.body).getD .skip
/- 44: placket/placketlaw16.up -/
def lv44 : Tr (List Nat) := (.node 1 [1]
 (.node 0 []
 .leaf .leaf) (.node 2 [0]
 .leaf .leaf))
def lvF44 (r : Nat) : List Nat := getL lv44 r
noncomputable def bd44 : Code := (Try.f44.body).getD .skip
/- 45: placket/placketlaw16.wants -/
def lv45 : Tr (List Nat) := (.node 2 [2, 3]
 (.node 1 [0, 8]
 (.node 0 [0]
 .leaf .leaf) .leaf) (.node 4 [2, 3]
 (.node 3 [4, 5]
 .leaf .leaf) .leaf))
def lvF45 (r : Nat) : List Nat := getL lv45 r
noncomputable def bd45 : Code := (Try.f45.body).getD .skip
/- 46: placket/match.Of -/
def lv46 : Tr (List Nat) := (.node 11 [0, 4, 5, 7, 9, 10, 22, 23, 24]
 (.node 5 [0, 1, 4, 5, 13, 14]
 (.node 2 [0, 1, 4, 5, 13, 14]
 (.node 1 [0, 1, 4, 5]
 (.node 0 [0, 1, 4]
 .leaf .leaf) .leaf) (.node 4 [0, 1, 4, 5, 6, 13, 14]
 (.node 3 [0, 1, 4, 5, 13, 14, 15]
 .leaf .leaf) .leaf)) (.node 8 [0, 4, 5, 7, 22, 23, 24]
 (.node 7 [0, 1, 4, 5, 7]
 (.node 6 [0, 1, 4, 5, 13, 14]
 .leaf .leaf) .leaf) (.node 10 [0, 4, 5, 7, 9, 22, 23, 24]
 (.node 9 [0, 4, 5, 7, 22, 23, 24, 25]
 .leaf .leaf) .leaf))) (.node 17 [0, 4, 5, 7, 22, 23, 24, 51]
 (.node 14 [0, 4, 5, 7, 9, 10, 11, 22, 23, 24]
 (.node 13 [0, 4, 5, 7, 9, 10, 11, 22, 23, 24, 33]
 (.node 12 [0, 4, 5, 7, 9, 10, 11, 22, 23, 24]
 .leaf .leaf) .leaf) (.node 16 [0, 4, 5, 7, 9, 22, 23, 24]
 (.node 15 [0, 4, 5, 7, 9, 10, 22, 23, 24]
 .leaf .leaf) .leaf)) (.node 20 [0, 4, 5, 7, 22, 23, 24]
 (.node 19 [0, 4, 5, 7, 22, 23, 24]
 (.node 18 [0, 4, 7, 22, 23, 24]
 .leaf .leaf) .leaf) (.node 22 [4]
 (.node 21 [4, 7]
 .leaf .leaf) .leaf))))
def lvF46 (r : Nat) : List Nat := getL lv46 r
noncomputable def bd46 : Code := (Try.f46.body).getD .skip
/- 47: placket/placketref16.Of -/
def lv47 : Tr (List Nat) := (.node 18 [0, 1, 7, 9, 10, 11, 12, 14]
 (.node 9 [0, 1, 7, 9, 10, 11, 33]
 (.node 4 [0, 1, 7, 8]
 (.node 2 [0, 1, 7, 8]
 (.node 1 [0, 1, 7]
 (.node 0 [0, 1]
 .leaf .leaf) .leaf) (.node 3 [0, 1, 7, 8, 24]
 .leaf .leaf)) (.node 7 [0, 1, 7, 9, 10]
 (.node 6 [0, 1, 7, 9]
 (.node 5 [0, 1, 7, 8]
 .leaf .leaf) .leaf) (.node 8 [0, 1, 7, 9, 10, 11]
 .leaf .leaf))) (.node 14 [0, 1, 7, 9, 10, 11, 12, 13, 14, 43]
 (.node 12 [0, 1, 7, 9, 10, 11, 12, 13]
 (.node 11 [0, 1, 7, 9, 10, 11, 12]
 (.node 10 [0, 1, 7, 9, 10, 11]
 .leaf .leaf) .leaf) (.node 13 [0, 1, 7, 9, 10, 11, 12, 13, 14]
 .leaf .leaf)) (.node 16 [0, 1, 7, 9, 10, 11, 12, 13, 14, 50]
 (.node 15 [0, 1, 7, 9, 10, 11, 12, 13, 14]
 .leaf .leaf) (.node 17 [0, 1, 7, 9, 10, 11, 12, 14, 60]
 .leaf .leaf)))) (.node 27 [0, 1, 7, 9, 10, 11, 15]
 (.node 23 [0, 1, 7, 9, 10, 11, 15]
 (.node 21 [0, 1, 7, 9, 10, 11, 12]
 (.node 20 [0, 1, 7, 9, 10, 11, 12, 63]
 (.node 19 [0, 1, 7, 9, 10, 11, 12, 13, 14]
 .leaf .leaf) .leaf) (.node 22 [0, 1, 7, 9, 10, 11]
 .leaf .leaf)) (.node 25 [0, 1, 7, 9, 10, 11, 15]
 (.node 24 [0, 1, 7, 9, 10, 11, 15, 82]
 .leaf .leaf) (.node 26 [0, 1, 7, 9, 10, 11, 15, 88]
 .leaf .leaf))) (.node 32 [0, 7, 9, 10, 16, 17]
 (.node 30 [0, 7, 9, 10, 16, 17]
 (.node 29 [0, 7, 9, 10, 16]
 (.node 28 [0, 1, 7, 9, 10, 11, 15]
 .leaf .leaf) .leaf) (.node 31 [0, 7, 9, 10, 16, 17, 99]
 .leaf .leaf)) (.node 34 [0, 7, 9, 10, 16, 17]
 (.node 33 [0, 7, 9, 10, 16, 17, 105]
 .leaf .leaf) (.node 35 [4, 5, 6]
 .leaf .leaf)))))
def lvF47 (r : Nat) : List Nat := getL lv47 r
noncomputable def bd47 : Code := (Try.f47.body).getD .skip
/- 48: placket/placketref01.Ints -/
def lv48 : Tr (List Nat) := (.node 4 [0, 1, 5, 14]
 (.node 2 [4]
 (.node 1 [0, 1, 10]
 (.node 0 [0, 1]
 .leaf .leaf) .leaf) (.node 3 [0, 1, 5]
 .leaf .leaf)) (.node 7 [4]
 (.node 6 [0, 1, 5, 25]
 (.node 5 [0, 1, 5]
 .leaf .leaf) .leaf) (.node 8 [4]
 .leaf .leaf)))
def lvF48 (r : Nat) : List Nat := getL lv48 r
noncomputable def bd48 : Code := (Try.f48.body).getD .skip
/- 59: placket/ins.May -/
def lv59 : Tr (List Nat) := (.node 8 [1, 4, 41]
 (.node 4 [1, 4, 21]
 (.node 2 [1, 4, 5]
 (.node 1 [1, 4]
 (.node 0 [1]
 .leaf .leaf) .leaf) (.node 3 [2]
 .leaf .leaf)) (.node 6 [1, 4, 31]
 (.node 5 [2]
 .leaf .leaf) (.node 7 [2]
 .leaf .leaf))) (.node 12 [1, 4, 52]
 (.node 10 [2]
 (.node 9 [1, 4, 41]
 .leaf .leaf) (.node 11 [1, 4, 52]
 .leaf .leaf)) (.node 14 [2]
 (.node 13 [1, 52]
 .leaf .leaf) (.node 15 [2]
 .leaf .leaf))))
def lvF59 (r : Nat) : List Nat := getL lv59 r
noncomputable def bd59 : Code := (Try.f59.body).getD .skip
/- 62: placket/placketref11.wrong -/
def lv62 : Tr (List Nat) := (.node 13 [5, 8, 9, 10]
 (.node 6 [4]
 (.node 3 [0, 1, 5, 20]
 (.node 1 [0, 1, 5]
 (.node 0 [0, 1]
 .leaf .leaf) (.node 2 [0, 1, 5, 6]
 .leaf .leaf)) (.node 5 [0, 1, 5, 23]
 (.node 4 [4]
 .leaf .leaf) .leaf)) (.node 10 [4]
 (.node 8 [0, 1, 5, 8, 35]
 (.node 7 [0, 1, 5, 8]
 .leaf .leaf) (.node 9 [37]
 .leaf .leaf)) (.node 12 [5, 8, 9]
 (.node 11 [4]
 .leaf .leaf) .leaf))) (.node 20 [5, 8, 9, 10, 11, 12, 61]
 (.node 17 [5, 8, 9, 10, 11, 12]
 (.node 15 [5, 8, 9, 10, 11, 44]
 (.node 14 [5, 8, 9, 10, 11]
 .leaf .leaf) (.node 16 [5, 8, 9, 10, 11]
 .leaf .leaf)) (.node 19 [4]
 (.node 18 [5, 8, 9, 10, 11, 12, 53]
 .leaf .leaf) .leaf)) (.node 24 [92]
 (.node 22 [5, 8, 85]
 (.node 21 [5, 8, 9, 10, 11]
 .leaf .leaf) (.node 23 [4]
 .leaf .leaf)) (.node 26 [4]
 (.node 25 [4]
 .leaf .leaf) .leaf))))
def lvF62 (r : Nat) : List Nat := getL lv62 r
noncomputable def bd62 : Code := (Try.f62.body).getD .skip
/- 63: placket/placketref11.begin -/
def lv63 : Tr (List Nat) := (.node 6 [0, 1, 6, 7]
 (.node 3 [0, 1, 6, 7, 10]
 (.node 1 [0, 1, 6]
 (.node 0 [0, 1]
 .leaf .leaf) (.node 2 [0, 1, 6, 7]
 .leaf .leaf)) (.node 5 [0, 1, 6, 7, 18]
 (.node 4 [0, 1, 6, 7]
 .leaf .leaf) .leaf)) (.node 9 [6, 42]
 (.node 8 [0, 1, 6, 7]
 (.node 7 [0, 1, 6, 7, 34]
 .leaf .leaf) .leaf) (.node 11 [4, 5]
 (.node 10 [4, 5]
 .leaf .leaf) .leaf)))
def lvF63 (r : Nat) : List Nat := getL lv63 r
noncomputable def bd63 : Code := (Try.f63.body).getD .skip
/- 66: placket/name.Text -/
def lv66 : Tr (List Nat) := (.node 4 [0, 5, 6, 18]
 (.node 2 [0, 5, 6, 7]
 (.node 1 [0, 5, 6]
 (.node 0 [0]
 .leaf .leaf) .leaf) (.node 3 [0, 3, 5, 6]
 .leaf .leaf)) (.node 6 [0, 5, 6]
 (.node 5 [2]
 .leaf .leaf) (.node 7 [2]
 .leaf .leaf)))
def lvF66 (r : Nat) : List Nat := getL lv66 r
noncomputable def bd66 : Code := (Try.f66.body).getD .skip
/- 67: placket/name.May -/
def lv67 : Tr (List Nat) := (.node 5 [0, 3, 19, 20]
 (.node 2 [2]
 (.node 1 [0, 17]
 (.node 0 [0]
 .leaf .leaf) .leaf) (.node 4 [0, 19, 20, 21]
 (.node 3 [0, 19, 20]
 .leaf .leaf) .leaf)) (.node 8 [2]
 (.node 7 [0, 19, 20, 40]
 (.node 6 [0, 4, 19, 20]
 .leaf .leaf) .leaf) (.node 10 [2]
 (.node 9 [0, 19, 20]
 .leaf .leaf) .leaf)))
def lvF67 (r : Nat) : List Nat := getL lv67 r
noncomputable def bd67 : Code := (Try.f67.body).getD .skip
/- 69: placket/name.Void -/
def lv69 : Tr (List Nat) := (.node 4 [3, 4]
 (.node 2 [3, 4]
 (.node 1 [3]
 (.node 0 [0]
 .leaf .leaf) .leaf) (.node 3 [3, 4]
 .leaf .leaf)) (.node 6 [2]
 (.node 5 [4]
 .leaf .leaf) (.node 7 [2]
 .leaf .leaf)))
def lvF69 (r : Nat) : List Nat := getL lv69 r
noncomputable def bd69 : Code := (Try.f69.body).getD .skip
/- 72: placket/placketref01.Text -/
def lv72 : Tr (List Nat) := (.node 3 [0, 3]
 (.node 1 [0, 3]
 (.node 0 [0]
 .leaf .leaf) (.node 2 [0, 3, 7]
 .leaf .leaf)) (.node 5 [2]
 (.node 4 [0, 3, 19]
 .leaf .leaf) (.node 6 [2]
 .leaf .leaf)))
def lvF72 (r : Nat) : List Nat := getL lv72 r
noncomputable def bd72 : Code := (Try.f72.body).getD .skip
/- 73: placket/placketref01.Name -/
def lv73 : Tr (List Nat) := (.node 5 [0, 3]
 (.node 2 [2]
 (.node 1 [0, 12]
 (.node 0 [0]
 .leaf .leaf) .leaf) (.node 4 [0, 3, 16]
 (.node 3 [0, 3]
 .leaf .leaf) .leaf)) (.node 8 [2]
 (.node 7 [0, 3, 46]
 (.node 6 [0, 3, 4]
 .leaf .leaf) .leaf) (.node 9 [2]
 .leaf .leaf)))
def lvF73 (r : Nat) : List Nat := getL lv73 r
noncomputable def bd73 : Code := (Try.f73.body).getD .skip
/- 75: placket/placketref01.Void -/
def lv75 : Tr (List Nat) := (.node 1 [2]
 (.node 0 [0]
 .leaf .leaf) .leaf)
def lvF75 (r : Nat) : List Nat := getL lv75 r
noncomputable def bd75 : Code := (Try.f75.body).getD .skip
/- 79: placket/wish.some -/
def lv79 : Tr (List Nat) := (.node 3 [0, 4, 5]
 (.node 1 [0, 4]
 (.node 0 [0]
 .leaf .leaf) (.node 2 [0, 4, 15]
 .leaf .leaf)) (.node 5 [0, 4]
 (.node 4 [0, 4, 5]
 .leaf .leaf) (.node 6 [2, 3]
 .leaf .leaf)))
def lvF79 (r : Nat) : List Nat := getL lv79 r
noncomputable def bd79 : Code := (Try.f79.body).getD .skip
/- 80: placket/placketref11.tells -/
def lv80 : Tr (List Nat) := (.node 1 [2]
 (.node 0 [0]
 .leaf .leaf) .leaf)
def lvF80 (r : Nat) : List Nat := getL lv80 r
noncomputable def bd80 : Code := (Try.f80.body).getD .skip
/- 84: placket/match.which -/
def lv84 : Tr (List Nat) := (.node 5 [1, 3, 5, 7, 17]
 (.node 2 [6]
 (.node 1 [1, 3, 5, 10]
 (.node 0 [1, 3, 5]
 .leaf .leaf) .leaf) (.node 4 [1, 3, 5, 7, 17]
 (.node 3 [1, 3, 5, 7]
 .leaf .leaf) .leaf)) (.node 8 [1, 3, 5, 44]
 (.node 7 [6]
 (.node 6 [1, 3, 5, 17]
 .leaf .leaf) .leaf) (.node 10 [6]
 (.node 9 [6]
 .leaf .leaf) .leaf)))
def lvF84 (r : Nat) : List Nat := getL lv84 r
noncomputable def bd84 : Code := (Try.f84.body).getD .skip
/- 86: placket/placketref16.takes -/
def lv86 : Tr (List Nat) := (.node 4 [2, 4, 8, 31]
 (.node 2 [2, 3, 4, 8, 9]
 (.node 1 [2, 3, 4, 8]
 (.node 0 [2, 3, 4]
 .leaf .leaf) .leaf) (.node 3 [6]
 .leaf .leaf)) (.node 7 [6]
 (.node 6 [2, 39]
 (.node 5 [6]
 .leaf .leaf) .leaf) (.node 8 [6]
 .leaf .leaf)))
def lvF86 (r : Nat) : List Nat := getL lv86 r
noncomputable def bd86 : Code := (Try.f86.body).getD .skip
/- 95: placket/placketref11.May -/
def lv95 : Tr (List Nat) := (.node 10 [1, 3, 5, 6, 20, 37]
 (.node 5 [1, 3, 4, 5, 6, 20]
 (.node 2 [1, 3, 4]
 (.node 1 [1, 3]
 (.node 0 [1]
 .leaf .leaf) .leaf) (.node 4 [1, 3, 4, 5, 6]
 (.node 3 [1, 3, 4, 5]
 .leaf .leaf) .leaf)) (.node 8 [1, 3, 4, 5, 6, 20, 31]
 (.node 7 [2]
 (.node 6 [1, 3, 4, 5, 6, 20, 21]
 .leaf .leaf) .leaf) (.node 9 [2]
 .leaf .leaf))) (.node 15 [1, 20, 52]
 (.node 13 [1, 3, 6, 20, 45]
 (.node 12 [1, 3, 6, 20, 45]
 (.node 11 [2]
 .leaf .leaf) .leaf) (.node 14 [2]
 .leaf .leaf)) (.node 18 [2]
 (.node 17 [1, 52]
 (.node 16 [1, 20, 52]
 .leaf .leaf) .leaf) (.node 19 [2]
 .leaf .leaf))))
def lvF95 (r : Nat) : List Nat := getL lv95 r
noncomputable def bd95 : Code := (Try.f95.body).getD .skip
/- 97: placket/ins.Tells -/
def lv97 : Tr (List Nat) := (.node 1 [2]
 (.node 0 [0]
 .leaf .leaf) .leaf)
def lvF97 (r : Nat) : List Nat := getL lv97 r
noncomputable def bd97 : Code := (Try.f97.body).getD .skip
/- 101: placket/placketref11.attr -/
def lv101 : Tr (List Nat) := (.node 6 [0, 1, 5, 6]
 (.node 3 [0, 1, 5, 6, 18]
 (.node 1 [0, 1, 5]
 (.node 0 [0, 1]
 .leaf .leaf) (.node 2 [0, 1, 5, 6]
 .leaf .leaf)) (.node 5 [4]
 (.node 4 [0, 1, 5, 6, 29]
 .leaf .leaf) .leaf)) (.node 10 [53]
 (.node 8 [0, 6, 39]
 (.node 7 [0, 1, 5, 6]
 .leaf .leaf) (.node 9 [4]
 .leaf .leaf)) (.node 12 [4]
 (.node 11 [4]
 .leaf .leaf) .leaf)))
def lvF101 (r : Nat) : List Nat := getL lv101 r
noncomputable def bd101 : Code := (Try.f101.body).getD .skip
/- 102: placket/placketref11.ahead -/
def lv102 : Tr (List Nat) := (.node 7 [0, 1, 7, 8, 9, 31]
 (.node 3 [0, 1, 5, 7, 8]
 (.node 1 [0, 1, 5]
 (.node 0 [0, 1]
 .leaf .leaf) (.node 2 [0, 1, 5, 7]
 .leaf .leaf)) (.node 5 [0, 1, 7, 8, 9, 19]
 (.node 4 [0, 1, 7, 8, 9]
 .leaf .leaf) (.node 6 [0, 1, 7, 8, 9]
 .leaf .leaf))) (.node 11 [0, 1, 7, 8, 9, 52]
 (.node 9 [0, 1, 7, 8, 9, 44]
 (.node 8 [0, 1, 7, 8, 9]
 .leaf .leaf) (.node 10 [0, 1, 7, 8, 9]
 .leaf .leaf)) (.node 13 [4]
 (.node 12 [0, 1, 7, 8, 9]
 .leaf .leaf) .leaf)))
def lvF102 (r : Nat) : List Nat := getL lv102 r
noncomputable def bd102 : Code := (Try.f102.body).getD .skip
/- 104: placket/name.letter -/
def lv104 : Tr (List Nat) := (.node 1 [2]
 (.node 0 [0]
 .leaf .leaf) .leaf)
def lvF104 (r : Nat) : List Nat := getL lv104 r
noncomputable def bd104 : Code := (Try.f104.body).getD .skip
/- 107: placket/placketref01.letter -/
def lv107 : Tr (List Nat) := (.node 1 [2]
 (.node 0 [0]
 .leaf .leaf) .leaf)
def lvF107 (r : Nat) : List Nat := getL lv107 r
noncomputable def bd107 : Code := (Try.f107.body).getD .skip
/- 109: placket/wish.one -/
def lv109 : Tr (List Nat) := (.node 8 [2, 3]
 (.node 4 [2, 3]
 (.node 2 [0, 2, 4, 12]
 (.node 1 [0, 2, 4]
 (.node 0 [0, 2]
 .leaf .leaf) .leaf) (.node 3 [0, 2, 4, 12, 13]
 .leaf .leaf)) (.node 6 [2, 3]
 (.node 5 [0, 2, 4, 12, 19]
 .leaf .leaf) (.node 7 [0, 2, 4, 23]
 .leaf .leaf))) (.node 12 [0, 2, 4, 5]
 (.node 10 [0, 2, 4, 5, 41]
 (.node 9 [0, 2, 4, 5]
 .leaf .leaf) (.node 11 [0, 2, 4, 5]
 .leaf .leaf)) (.node 14 [0, 2, 5]
 (.node 13 [0, 2, 5, 65]
 .leaf .leaf) (.node 15 [2, 3]
 .leaf .leaf))))
def lvF109 (r : Nat) : List Nat := getL lv109 r
noncomputable def bd109 : Code := (Try.f109.body).getD .skip
/- 110: slices.IndexFunc[[]int,int] -/
def lv110 : Tr (List Nat) := (.node 4 [0, 1, 5, 7, 8, 16]
 (.node 2 [0, 1, 7, 8, 9]
 (.node 1 [0, 1, 7, 8]
 (.node 0 [0, 1]
 .leaf .leaf) .leaf) (.node 3 [0, 1, 5, 7, 8]
 .leaf .leaf)) (.node 6 [0, 1, 7, 8]
 (.node 5 [4]
 .leaf .leaf) (.node 7 [4]
 .leaf .leaf)))
def lvF110 (r : Nat) : List Nat := getL lv110 r
noncomputable def bd110 : Code := (Try.f110.body).getD .skip
/- 111: placket/match.which$1 -/
def lv111 : Tr (List Nat) := (.node 1 [4]
 (.node 0 [0, 1, 2]
 .leaf .leaf) .leaf)
def lvF111 (r : Nat) : List Nat := getL lv111 r
noncomputable def bd111 : Code := (Try.f111.body).getD .skip
noncomputable def fnT : Tr Func := (.node 67 Try.f67
 (.node 44 Try.f44
 (.node 20 Try.f20
 (.node 11 Try.f11
 (.node 10 Try.f10
 (.node 5 Try.f5
 .leaf .leaf) .leaf) (.node 18 Try.f18
 .leaf .leaf)) (.node 34 Try.f34
 (.node 24 Try.f24
 (.node 22 Try.f22
 .leaf .leaf) .leaf) (.node 36 Try.f36
 .leaf .leaf))) (.node 59 Try.f59
 (.node 47 Try.f47
 (.node 46 Try.f46
 (.node 45 Try.f45
 .leaf .leaf) .leaf) (.node 48 Try.f48
 .leaf .leaf)) (.node 63 Try.f63
 (.node 62 Try.f62
 .leaf .leaf) (.node 66 Try.f66
 .leaf .leaf)))) (.node 95 Try.f95
 (.node 79 Try.f79
 (.node 73 Try.f73
 (.node 72 Try.f72
 (.node 69 Try.f69
 .leaf .leaf) .leaf) (.node 75 Try.f75
 .leaf .leaf)) (.node 84 Try.f84
 (.node 80 Try.f80
 .leaf .leaf) (.node 86 Try.f86
 .leaf .leaf))) (.node 107 Try.f107
 (.node 102 Try.f102
 (.node 101 Try.f101
 (.node 97 Try.f97
 .leaf .leaf) .leaf) (.node 104 Try.f104
 .leaf .leaf)) (.node 110 Try.f110
 (.node 109 Try.f109
 .leaf .leaf) (.node 111 Try.f111
 .leaf .leaf)))))
def liveT : Tr (Tr (List Nat)) := (.node 67 lv67
 (.node 44 lv44
 (.node 20 lv20
 (.node 11 lv11
 (.node 10 lv10
 (.node 5 lv5
 .leaf .leaf) .leaf) (.node 18 lv18
 .leaf .leaf)) (.node 34 lv34
 (.node 24 lv24
 (.node 22 lv22
 .leaf .leaf) .leaf) (.node 36 lv36
 .leaf .leaf))) (.node 59 lv59
 (.node 47 lv47
 (.node 46 lv46
 (.node 45 lv45
 .leaf .leaf) .leaf) (.node 48 lv48
 .leaf .leaf)) (.node 63 lv63
 (.node 62 lv62
 .leaf .leaf) (.node 66 lv66
 .leaf .leaf)))) (.node 95 lv95
 (.node 79 lv79
 (.node 73 lv73
 (.node 72 lv72
 (.node 69 lv69
 .leaf .leaf) .leaf) (.node 75 lv75
 .leaf .leaf)) (.node 84 lv84
 (.node 80 lv80
 .leaf .leaf) (.node 86 lv86
 .leaf .leaf))) (.node 107 lv107
 (.node 102 lv102
 (.node 101 lv101
 (.node 97 lv97
 .leaf .leaf) .leaf) (.node 104 lv104
 .leaf .leaf)) (.node 110 lv110
 (.node 109 lv109
 .leaf .leaf) (.node 111 lv111
 .leaf .leaf)))))
def consT : Tr (List Nat) := (.node 84 [2]
 (.node 46 [2]
 (.node 34 [2]
 .leaf .leaf) (.node 79 [2]
 .leaf .leaf)) (.node 109 [2]
 (.node 85 [1]
 .leaf .leaf) .leaf))
def pureT : Tr Unit := .leaf
def extT : Tr (List AV → Seg → Prog) := (.node 85 yDelete
 (.node 23 (yCheck 39 59)
 .leaf .leaf) .leaf)
def liveOf (f : Nat) : Nat → List Nat := match liveT.get f with
  | some t => getL t
  | none => fun _ => []
noncomputable def fnF (f : Nat) : Option Func := fnT.get f
def tyF (t : Nat) : Option Ty := tyT.get t
def consF (f : Nat) : List Nat := getL consT f
def pureF (f : Nat) : Bool := (pureT.get f).isSome
def extF (f : Nat) : Option (List AV → Seg → Prog) := extT.get f
noncomputable def envV (A : Ar) : Env := { A := A, fn := fnF, ty := tyF, live := liveOf, cons := consF, pure := pureF, ext := extF }
end Go.Va
