/- The functions that the statement reaches, by equations: no statement of its own. -/
import Derived.Test.YtmklimlepgiffabVa40
import Derived.Test.YtmklimlepgiffabProg
set_option linter.unusedVariables false
set_option linter.unusedSimpArgs false
set_option linter.unusedSectionVars false
set_option maxRecDepth 20000
namespace Go.Va
open Go.Proofs
def ty3 : Ty := ⟨(.int .i64), 1, 8, [.s (.int .i64 0)], 0, [], []⟩
def ty4 : Ty := ⟨.bool, 1, 1, [.s (.bool false)], 0, [], []⟩
def ty5 : Ty := ⟨(.int .u8), 1, 1, [.s (.int .u8 0)], 0, [], []⟩
def ty9 : Ty := ⟨.str, 1, 16, [.s (.string ⟨#[]⟩)], 0, [], []⟩
def ty39 : Ty := ⟨(.int .i64), 1, 8, [.s (.int .i64 0)], 0, [], []⟩
def ty43 : Ty := ⟨.slice, 1, 24, [.sl 3 [] .full], 120, [], []⟩
def ty44 : Ty := ⟨.slice, 1, 24, [.sl 5 [] .full], 46, [], []⟩
def ty46 : Ty := ⟨.struct, 5, 96, [.s (.string ⟨#[]⟩), .s (.string ⟨#[]⟩), .s (.string ⟨#[]⟩), .sl 3 [] .full, .sl 5 [] .full], 0, [some (0, 1), some (1, 1), some (2, 1), some (3, 1), some (4, 1)], []⟩
def ty71 : Ty := ⟨.slice, 1, 24, [.sl 1 [] .full], 3, [], []⟩
def ty120 : Ty := ⟨.struct, 3, 40, [.s (.string ⟨#[]⟩), .s (.string ⟨#[]⟩), .s (.bool false)], 0, [some (0, 1), some (1, 1), some (2, 1)], [.str, .str, .bool]⟩
def ty138 : Ty := ⟨.ptr, 1, 8, [.s (.pointer none)], 0, [], []⟩
def ty140 : Ty := ⟨.struct, 8, 120, [.s (.int .i64 0), .s (.int .i64 0), .s (.string ⟨#[]⟩), .s (.string ⟨#[]⟩), .s (.string ⟨#[]⟩), .sl 3 [] .full, .sl 1 [] .full, .s (.int .i64 0)], 0, [some (0, 1), some (1, 1), some (2, 1), some (3, 1), some (4, 1), some (5, 1), some (6, 1), some (7, 1)], []⟩
def ty150 : Ty := ⟨.ptr, 1, 8, [.s (.pointer none)], 0, [], []⟩
def ty152 : Ty := ⟨.struct, 2, 16, [.s (.pointer none), .s (.int .i64 0)], 0, [some (0, 1), some (1, 1)], []⟩
def ty158 : Ty := ⟨.struct, 9, 128, [.s (.int .i64 0), .s (.int .i64 0), .s (.int .i64 0), .s (.string ⟨#[]⟩), .s (.string ⟨#[]⟩), .s (.string ⟨#[]⟩), .sl 3 [] .full, .sl 1 [] .full, .s (.int .i64 0)], 0, [some (0, 1), some (1, 8)], []⟩
def ty159 : Ty := ⟨.slice, 1, 24, [.sl 9 [] .full], 158, [], []⟩
def ty166 : Ty := ⟨.struct, 4, 64, [.sl 9 [] .full, .sl 1 [] .full, .s (.int .i64 0), .s (.int .i64 0)], 0, [some (0, 1), some (1, 1), some (2, 1), some (3, 1)], []⟩
def tyT : Tr Ty := (.node 71 ty71
 (.node 39 ty39
 (.node 5 ty5
 (.node 4 ty4
 (.node 3 ty3
 .leaf .leaf) .leaf) (.node 9 ty9
 .leaf .leaf)) (.node 44 ty44
 (.node 43 ty43
 .leaf .leaf) (.node 46 ty46
 .leaf .leaf))) (.node 152 ty152
 (.node 140 ty140
 (.node 138 ty138
 (.node 120 ty120
 .leaf .leaf) .leaf) (.node 150 ty150
 .leaf .leaf)) (.node 159 ty159
 (.node 158 ty158
 .leaf .leaf) (.node 166 ty166
 .leaf .leaf))))
/- 6: placket/placketlaw08.TreeTells -/
def lv6 : Tr (List Nat) := (.node 2 [2, 3, 5, 14]
 (.node 1 [2, 3, 5]
 (.node 0 [2, 3]
 .leaf .leaf) .leaf) (.node 4 [4]
 (.node 3 [4]
 .leaf .leaf) .leaf))
def lvF6 (r : Nat) : List Nat := getL lv6 r
noncomputable def bd6 : Code := (Try.f6.body).getD .skip
/- 25: placket/placketlaw08.up -/
def lv25 : Tr (List Nat) := (.node 2 [1, 3]
 (.node 1 [1]
 (.node 0 []
 .leaf .leaf) .leaf) (.node 3 [0]
 .leaf .leaf))
def lvF25 (r : Nat) : List Nat := getL lv25 r
noncomputable def bd25 : Code := (Try.f25.body).getD .skip
/- 26: placket/placketlaw08.Many -/
def lv26 : Tr (List Nat) := (.node 4 [1, 2, 5, 6]
 (.node 2 [4]
 (.node 1 [1, 2, 28]
 (.node 0 [1, 2]
 .leaf .leaf) .leaf) (.node 3 [1, 2, 5]
 .leaf .leaf)) (.node 7 [1, 2, 5, 6]
 (.node 6 [1, 2, 5, 6]
 (.node 5 [1, 2, 5, 6, 40]
 .leaf .leaf) .leaf) (.node 8 [4]
 .leaf .leaf)))
def lvF26 (r : Nat) : List Nat := getL lv26 r
noncomputable def bd26 : Code := (Try.f26.body).getD .skip
/- 27: placket/tree.May -/
def lv27 : Tr (List Nat) := (.node 3 [1, 57]
 (.node 1 [1, 5]
 (.node 0 [1]
 .leaf .leaf) (.node 2 [2]
 .leaf .leaf)) (.node 5 [2]
 (.node 4 [2]
 .leaf .leaf) .leaf))
def lvF27 (r : Nat) : List Nat := getL lv27 r
noncomputable def bd27 : Code := (Try.f27.body).getD .skip
/- 28: placket/placketref08.May -/
def lv28 : Tr (List Nat) := (.node 8 [1, 69]
 (.node 4 [1, 4]
 (.node 2 [1, 3]
 (.node 1 [1, 12]
 (.node 0 [1]
 .leaf .leaf) .leaf) (.node 3 [2]
 .leaf .leaf)) (.node 6 [1, 4, 5, 6]
 (.node 5 [1, 4, 5]
 .leaf .leaf) (.node 7 [1, 4, 5, 6, 7]
 .leaf .leaf))) (.node 13 [1, 8, 9]
 (.node 11 [1, 8, 74]
 (.node 10 [1, 8]
 (.node 9 [2]
 .leaf .leaf) .leaf) (.node 12 [1, 8]
 .leaf .leaf)) (.node 15 [2]
 (.node 14 [1, 8, 84]
 .leaf .leaf) (.node 16 [2]
 .leaf .leaf))))
def lvF28 (r : Nat) : List Nat := getL lv28 r
noncomputable def bd28 : Code := (Try.f28.body).getD .skip
/- 29: placket/tree.Count -/
def lv29 : Tr (List Nat) := (.node 4 [3, 5, 7, 8, 9]
 (.node 2 [3, 7, 8, 9]
 (.node 1 [1, 3]
 (.node 0 [1]
 .leaf .leaf) .leaf) (.node 3 [3, 7, 8, 9, 10]
 .leaf .leaf)) (.node 6 [3, 7, 8, 9]
 (.node 5 [3, 7, 8, 9]
 .leaf .leaf) (.node 7 [2]
 .leaf .leaf)))
def lvF29 (r : Nat) : List Nat := getL lv29 r
noncomputable def bd29 : Code := (Try.f29.body).getD .skip
/- 30: placket/placketref08.Count -/
def lv30 : Tr (List Nat) := (.node 3 [1, 3, 4, 9]
 (.node 1 [1, 3]
 (.node 0 [1]
 .leaf .leaf) (.node 2 [1, 3, 4]
 .leaf .leaf)) (.node 5 [1, 3, 4]
 (.node 4 [1, 3, 4]
 .leaf .leaf) (.node 6 [2]
 .leaf .leaf)))
def lvF30 (r : Nat) : List Nat := getL lv30 r
noncomputable def bd30 : Code := (Try.f30.body).getD .skip
/- 31: placket/tree.Same -/
def lv31 : Tr (List Nat) := (.node 1 [4]
 (.node 0 [2, 3]
 .leaf .leaf) .leaf)
def lvF31 (r : Nat) : List Nat := getL lv31 r
noncomputable def bd31 : Code := (Try.f31.body).getD .skip
/- 32: placket/placketref08.Same -/
def lv32 : Tr (List Nat) := (.node 5 [2, 3, 6, 49]
 (.node 2 [2, 3, 44]
 (.node 1 [2, 3, 5]
 (.node 0 [2, 3]
 .leaf .leaf) .leaf) (.node 4 [2, 3, 6]
 (.node 3 [4]
 .leaf .leaf) .leaf)) (.node 8 [2, 3, 6, 64]
 (.node 7 [2, 3, 6, 7]
 (.node 6 [2, 3, 6]
 .leaf .leaf) .leaf) (.node 10 [4]
 (.node 9 [4]
 .leaf .leaf) .leaf)))
def lvF32 (r : Nat) : List Nat := getL lv32 r
noncomputable def bd32 : Code := (Try.f32.body).getD .skip
/- 64: placket/tree.Of -/
def lv64 : Tr (List Nat) := (.node 6 [0, 4, 7, 8, 32, 33, 34, 35]
 (.node 3 [0, 4, 6, 7]
 (.node 1 [0, 1, 4, 14]
 (.node 0 [0, 1, 4]
 .leaf .leaf) (.node 2 [4, 5]
 .leaf .leaf)) (.node 5 [0, 4, 7, 8, 32, 33, 34]
 (.node 4 [0, 4, 6, 7, 8]
 .leaf .leaf) .leaf)) (.node 9 [0, 4, 7, 8, 32, 33, 34]
 (.node 8 [0, 4, 7, 8, 11, 32, 33, 34]
 (.node 7 [0, 4, 7, 8, 10, 32, 33, 34]
 .leaf .leaf) .leaf) (.node 11 [4, 5]
 (.node 10 [0, 4, 7, 8, 32, 33, 34]
 .leaf .leaf) .leaf)))
def lvF64 (r : Nat) : List Nat := getL lv64 r
noncomputable def bd64 : Code := (Try.f64.body).getD .skip
/- 65: placket/placketlaw03.Few -/
def lv65 : Tr (List Nat) := (.node 4 [0, 3, 29]
 (.node 2 [0, 3, 11]
 (.node 1 [0, 3]
 (.node 0 [0]
 .leaf .leaf) .leaf) (.node 3 [0, 3]
 .leaf .leaf)) (.node 7 [2]
 (.node 6 [32]
 (.node 5 [2]
 .leaf .leaf) .leaf) (.node 8 [2]
 .leaf .leaf)))
def lvF65 (r : Nat) : List Nat := getL lv65 r
noncomputable def bd65 : Code := (Try.f65.body).getD .skip
/- 66: placket/name.Text -/
def lv66 : Tr (List Nat) := (.node 4 [0, 5, 6, 18]
 (.node 2 [0, 5, 6, 7]
 (.node 1 [0, 5, 6]
 (.node 0 [0]
 .leaf .leaf) .leaf) (.node 3 [0, 3, 5, 6]
 .leaf .leaf)) (.node 6 [0, 5, 6]
 (.node 5 [2]
 .leaf .leaf) (.node 7 [2]
 .leaf .leaf)))
def lvF66 (r : Nat) : List Nat := getL lv66 r
noncomputable def bd66 : Code := (Try.f66.body).getD .skip
/- 67: placket/name.May -/
def lv67 : Tr (List Nat) := (.node 5 [0, 3, 19, 20]
 (.node 2 [2]
 (.node 1 [0, 17]
 (.node 0 [0]
 .leaf .leaf) .leaf) (.node 4 [0, 19, 20, 21]
 (.node 3 [0, 19, 20]
 .leaf .leaf) .leaf)) (.node 8 [2]
 (.node 7 [0, 19, 20, 40]
 (.node 6 [0, 4, 19, 20]
 .leaf .leaf) .leaf) (.node 10 [2]
 (.node 9 [0, 19, 20]
 .leaf .leaf) .leaf)))
def lvF67 (r : Nat) : List Nat := getL lv67 r
noncomputable def bd67 : Code := (Try.f67.body).getD .skip
/- 68: placket/attr.May -/
def lv68 : Tr (List Nat) := (.node 4 [0, 5, 6, 7, 29]
 (.node 2 [0, 5, 6, 7, 8]
 (.node 1 [0, 5, 6, 7]
 (.node 0 [0]
 .leaf .leaf) .leaf) (.node 3 [0, 3, 4, 5, 6, 7]
 .leaf .leaf)) (.node 6 [0, 5, 6, 7]
 (.node 5 [2]
 .leaf .leaf) (.node 7 [2]
 .leaf .leaf)))
def lvF68 (r : Nat) : List Nat := getL lv68 r
noncomputable def bd68 : Code := (Try.f68.body).getD .skip
/- 69: placket/name.Void -/
def lv69 : Tr (List Nat) := (.node 4 [3, 4]
 (.node 2 [3, 4]
 (.node 1 [3]
 (.node 0 [0]
 .leaf .leaf) .leaf) (.node 3 [3, 4]
 .leaf .leaf)) (.node 6 [2]
 (.node 5 [4]
 .leaf .leaf) (.node 7 [2]
 .leaf .leaf)))
def lvF69 (r : Nat) : List Nat := getL lv69 r
noncomputable def bd69 : Code := (Try.f69.body).getD .skip
/- 70: slices.ContainsFunc[[]placket/api.Tree,placket/api.Tree] -/
def lv70 : Tr (List Nat) := (.node 1 [4]
 (.node 0 [0, 1]
 .leaf .leaf) .leaf)
def lvF70 (r : Nat) : List Nat := getL lv70 r
noncomputable def bd70 : Code := (Try.f70.body).getD .skip
/- 71: placket/tree.May$1 -/
def lv71 : Tr (List Nat) := (.node 1 [2]
 (.node 0 [1]
 .leaf .leaf) .leaf)
def lvF71 (r : Nat) : List Nat := getL lv71 r
noncomputable def bd71 : Code := (Try.f71.body).getD .skip
/- 72: placket/placketref01.Text -/
def lv72 : Tr (List Nat) := (.node 3 [0, 3]
 (.node 1 [0, 3]
 (.node 0 [0]
 .leaf .leaf) (.node 2 [0, 3, 7]
 .leaf .leaf)) (.node 5 [2]
 (.node 4 [0, 3, 19]
 .leaf .leaf) (.node 6 [2]
 .leaf .leaf)))
def lvF72 (r : Nat) : List Nat := getL lv72 r
noncomputable def bd72 : Code := (Try.f72.body).getD .skip
/- 73: placket/placketref01.Name -/
def lv73 : Tr (List Nat) := (.node 5 [0, 3]
 (.node 2 [2]
 (.node 1 [0, 12]
 (.node 0 [0]
 .leaf .leaf) .leaf) (.node 4 [0, 3, 16]
 (.node 3 [0, 3]
 .leaf .leaf) .leaf)) (.node 8 [2]
 (.node 7 [0, 3, 46]
 (.node 6 [0, 3, 4]
 .leaf .leaf) .leaf) (.node 9 [2]
 .leaf .leaf)))
def lvF73 (r : Nat) : List Nat := getL lv73 r
noncomputable def bd73 : Code := (Try.f73.body).getD .skip
/- 74: placket/placketref01.May -/
def lv74 : Tr (List Nat) := (.node 7 [2]
 (.node 3 [0, 3]
 (.node 1 [0, 3]
 (.node 0 [0]
 .leaf .leaf) (.node 2 [0, 3, 10]
 .leaf .leaf)) (.node 5 [0, 3, 4, 5]
 (.node 4 [0, 3, 4]
 .leaf .leaf) (.node 6 [0, 3, 30]
 .leaf .leaf))) (.node 11 [0, 3, 6, 46]
 (.node 9 [0, 3, 6, 33]
 (.node 8 [0, 3, 6]
 .leaf .leaf) (.node 10 [0, 3, 6]
 .leaf .leaf)) (.node 13 [2]
 (.node 12 [2]
 .leaf .leaf) .leaf)))
def lvF74 (r : Nat) : List Nat := getL lv74 r
noncomputable def bd74 : Code := (Try.f74.body).getD .skip
/- 75: placket/placketref01.Void -/
def lv75 : Tr (List Nat) := (.node 1 [2]
 (.node 0 [0]
 .leaf .leaf) .leaf)
def lvF75 (r : Nat) : List Nat := getL lv75 r
noncomputable def bd75 : Code := (Try.f75.body).getD .skip
/- 76: placket/attr.Same -/
def lv76 : Tr (List Nat) := (.node 1 [4]
 (.node 0 [0, 1]
 .leaf .leaf) .leaf)
def lvF76 (r : Nat) : List Nat := getL lv76 r
noncomputable def bd76 : Code := (Try.f76.body).getD .skip
/- 77: slices.EqualFunc[[]placket/api.Tree,[]placket/api.Tree,placket/api.Tree,placket/api.Tree] -/
def lv77 : Tr (List Nat) := (.node 5 [1, 2, 7, 8, 15, 16, 17]
 (.node 2 [6]
 (.node 1 [0, 1, 2, 14]
 (.node 0 [0, 1, 2]
 .leaf .leaf) .leaf) (.node 4 [1, 2, 15, 16, 17, 18]
 (.node 3 [1, 2, 15, 16, 17]
 .leaf .leaf) .leaf)) (.node 8 [6]
 (.node 7 [1, 2, 15, 16, 17, 30]
 (.node 6 [1, 2, 8, 9, 15, 16, 17]
 .leaf .leaf) .leaf) (.node 10 [6]
 (.node 9 [1, 2, 15, 16, 17]
 .leaf .leaf) .leaf)))
def lvF77 (r : Nat) : List Nat := getL lv77 r
noncomputable def bd77 : Code := (Try.f77.body).getD .skip
/- 78: placket/placketref01.Same -/
def lv78 : Tr (List Nat) := (.node 4 [0, 1, 5, 14]
 (.node 2 [4]
 (.node 1 [0, 1, 10]
 (.node 0 [0, 1]
 .leaf .leaf) .leaf) (.node 3 [0, 1, 5]
 .leaf .leaf)) (.node 7 [4]
 (.node 6 [0, 1, 5, 25]
 (.node 5 [0, 1, 5]
 .leaf .leaf) .leaf) (.node 8 [4]
 .leaf .leaf)))
def lvF78 (r : Nat) : List Nat := getL lv78 r
noncomputable def bd78 : Code := (Try.f78.body).getD .skip
/- 103: (*placket/dom.Doc).Node -/
def lv103 : Tr (List Nat) := (.node 2 [4, 6, 7]
 (.node 1 [4, 6, 7]
 (.node 0 [0, 1, 4]
 .leaf .leaf) .leaf) (.node 3 [4, 5]
 .leaf .leaf))
def lvF103 (r : Nat) : List Nat := getL lv103 r
noncomputable def bd103 : Code := (Try.f103.body).getD .skip
/- 104: placket/name.letter -/
def lv104 : Tr (List Nat) := (.node 1 [2]
 (.node 0 [0]
 .leaf .leaf) .leaf)
def lvF104 (r : Nat) : List Nat := getL lv104 r
noncomputable def bd104 : Code := (Try.f104.body).getD .skip
/- 105: placket/attr.at -/
def lv105 : Tr (List Nat) := (.node 1 [4]
 (.node 0 [0, 3]
 .leaf .leaf) .leaf)
def lvF105 (r : Nat) : List Nat := getL lv105 r
noncomputable def bd105 : Code := (Try.f105.body).getD .skip
/- 106: slices.IndexFunc[[]placket/api.Tree,placket/api.Tree] -/
def lv106 : Tr (List Nat) := (.node 4 [0, 1, 5, 7, 8, 16]
 (.node 2 [0, 1, 7, 8, 9]
 (.node 1 [0, 1, 7, 8]
 (.node 0 [0, 1]
 .leaf .leaf) .leaf) (.node 3 [0, 1, 5, 7, 8]
 .leaf .leaf)) (.node 6 [0, 1, 7, 8]
 (.node 5 [4]
 .leaf .leaf) (.node 7 [4]
 .leaf .leaf)))
def lvF106 (r : Nat) : List Nat := getL lv106 r
noncomputable def bd106 : Code := (Try.f106.body).getD .skip
/- 107: placket/placketref01.letter -/
def lv107 : Tr (List Nat) := (.node 1 [2]
 (.node 0 [0]
 .leaf .leaf) .leaf)
def lvF107 (r : Nat) : List Nat := getL lv107 r
noncomputable def bd107 : Code := (Try.f107.body).getD .skip
/- 108: slices.Equal[[]placket/api.Attr,placket/api.Attr] -/
def lv108 : Tr (List Nat) := (.node 5 [0, 1, 5, 12, 13]
 (.node 2 [4]
 (.node 1 [0, 1, 10]
 (.node 0 [0, 1]
 .leaf .leaf) .leaf) (.node 4 [0, 1, 12, 13, 14]
 (.node 3 [0, 1, 12, 13]
 .leaf .leaf) .leaf)) (.node 8 [0, 1, 12, 13]
 (.node 7 [4]
 (.node 6 [0, 1, 12, 13, 24]
 .leaf .leaf) .leaf) (.node 9 [4]
 .leaf .leaf)))
def lvF108 (r : Nat) : List Nat := getL lv108 r
noncomputable def bd108 : Code := (Try.f108.body).getD .skip
/- 115: (*placket/arena.Arena[placket/api.Node]).Get -/
def lv115 : Tr (List Nat) := (.node 3 [4, 5]
 (.node 1 [0, 4, 6]
 (.node 0 [0, 1, 4]
 .leaf .leaf) (.node 2 [0, 4, 6, 12]
 .leaf .leaf)) (.node 5 [4, 5]
 (.node 4 [4, 7]
 .leaf .leaf) .leaf))
def lvF115 (r : Nat) : List Nat := getL lv115 r
noncomputable def bd115 : Code := (Try.f115.body).getD .skip
/- 117: slices.IndexFunc[[]placket/api.Attr,placket/api.Attr] -/
def lv117 : Tr (List Nat) := (.node 4 [0, 1, 5, 7, 8, 16]
 (.node 2 [0, 1, 7, 8, 9]
 (.node 1 [0, 1, 7, 8]
 (.node 0 [0, 1]
 .leaf .leaf) .leaf) (.node 3 [0, 1, 5, 7, 8]
 .leaf .leaf)) (.node 6 [0, 1, 7, 8]
 (.node 5 [4]
 .leaf .leaf) (.node 7 [4]
 .leaf .leaf)))
def lvF117 (r : Nat) : List Nat := getL lv117 r
noncomputable def bd117 : Code := (Try.f117.body).getD .skip
/- 118: placket/attr.at$1 -/
def lv118 : Tr (List Nat) := (.node 1 [3]
 (.node 0 [1, 2]
 .leaf .leaf) .leaf)
def lvF118 (r : Nat) : List Nat := getL lv118 r
noncomputable def bd118 : Code := (Try.f118.body).getD .skip
/- 120: (*placket/arena.Arena[placket/api.Node]).at -/
def lv120 : Tr (List Nat) := (.node 4 [1, 5, 10, 11, 12, 24]
 (.node 2 [1, 10, 11, 12, 13]
 (.node 1 [1, 10, 11, 12]
 (.node 0 [0, 1]
 .leaf .leaf) .leaf) (.node 3 [1, 5, 6, 10, 11, 12]
 .leaf .leaf)) (.node 6 [1, 10, 11, 12]
 (.node 5 [4]
 .leaf .leaf) (.node 7 [4]
 .leaf .leaf)))
def lvF120 (r : Nat) : List Nat := getL lv120 r
noncomputable def bd120 : Code := (Try.f120.body).getD .skip
noncomputable def fnT : Tr Func := (.node 72 Try.f72
 (.node 32 Try.f32
 (.node 28 Try.f28
 (.node 26 Try.f26
 (.node 25 Try.f25
 (.node 6 Try.f6
 .leaf .leaf) .leaf) (.node 27 Try.f27
 .leaf .leaf)) (.node 30 Try.f30
 (.node 29 Try.f29
 .leaf .leaf) (.node 31 Try.f31
 .leaf .leaf))) (.node 68 Try.f68
 (.node 66 Try.f66
 (.node 65 Try.f65
 (.node 64 Try.f64
 .leaf .leaf) .leaf) (.node 67 Try.f67
 .leaf .leaf)) (.node 70 Try.f70
 (.node 69 Try.f69
 .leaf .leaf) (.node 71 Try.f71
 .leaf .leaf)))) (.node 105 Try.f105
 (.node 77 Try.f77
 (.node 75 Try.f75
 (.node 74 Try.f74
 (.node 73 Try.f73
 .leaf .leaf) .leaf) (.node 76 Try.f76
 .leaf .leaf)) (.node 103 Try.f103
 (.node 78 Try.f78
 .leaf .leaf) (.node 104 Try.f104
 .leaf .leaf))) (.node 115 Try.f115
 (.node 107 Try.f107
 (.node 106 Try.f106
 .leaf .leaf) (.node 108 Try.f108
 .leaf .leaf)) (.node 118 Try.f118
 (.node 117 Try.f117
 .leaf .leaf) (.node 120 Try.f120
 .leaf .leaf)))))
def liveT : Tr (Tr (List Nat)) := (.node 72 lv72
 (.node 32 lv32
 (.node 28 lv28
 (.node 26 lv26
 (.node 25 lv25
 (.node 6 lv6
 .leaf .leaf) .leaf) (.node 27 lv27
 .leaf .leaf)) (.node 30 lv30
 (.node 29 lv29
 .leaf .leaf) (.node 31 lv31
 .leaf .leaf))) (.node 68 lv68
 (.node 66 lv66
 (.node 65 lv65
 (.node 64 lv64
 .leaf .leaf) .leaf) (.node 67 lv67
 .leaf .leaf)) (.node 70 lv70
 (.node 69 lv69
 .leaf .leaf) (.node 71 lv71
 .leaf .leaf)))) (.node 105 lv105
 (.node 77 lv77
 (.node 75 lv75
 (.node 74 lv74
 (.node 73 lv73
 .leaf .leaf) .leaf) (.node 76 lv76
 .leaf .leaf)) (.node 103 lv103
 (.node 78 lv78
 .leaf .leaf) (.node 104 lv104
 .leaf .leaf))) (.node 115 lv115
 (.node 107 lv107
 (.node 106 lv106
 .leaf .leaf) (.node 108 lv108
 .leaf .leaf)) (.node 118 lv118
 (.node 117 lv117
 .leaf .leaf) (.node 120 lv120
 .leaf .leaf)))))
def consT : Tr (List Nat) := .leaf
def pureT : Tr Unit := (.node 115 ()
 (.node 103 ()
 (.node 64 ()
 .leaf .leaf) .leaf) (.node 120 ()
 .leaf .leaf))
def extT : Tr (List AV → Seg → Prog) := .leaf
def liveOf (f : Nat) : Nat → List Nat := match liveT.get f with
  | some t => getL t
  | none => fun _ => []
noncomputable def fnF (f : Nat) : Option Func := fnT.get f
def tyF (t : Nat) : Option Ty := tyT.get t
def consF (f : Nat) : List Nat := getL consT f
def pureF (f : Nat) : Bool := (pureT.get f).isSome
def extF (f : Nat) : Option (List AV → Seg → Prog) := extT.get f
noncomputable def envV (A : Ar) : Env := { A := A, fn := fnF, ty := tyF, live := liveOf, cons := consF, pure := pureF, ext := extF }
end Go.Va
