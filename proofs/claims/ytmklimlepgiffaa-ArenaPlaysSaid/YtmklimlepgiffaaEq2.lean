/- The functions that the statement reaches, by equations: no statement of its own. -/
import Derived.Test.YtmklimlepgiffaaEq1
import Derived.Test.YtmklimlepgiffaaProg
set_option linter.unusedVariables false
set_option linter.unusedSimpArgs false
set_option linter.unusedSectionVars false
set_option maxRecDepth 20000
namespace Go.Va
open Go.Proofs
def ty2 : Ty := ⟨(.int .i64), 1, 8, [.s (.int .i64 0)], 0, [], []⟩
def ty3 : Ty := ⟨(.int .i64), 1, 8, [.s (.int .i64 0)], 0, [], []⟩
def ty4 : Ty := ⟨.bool, 1, 1, [.s (.bool false)], 0, [], []⟩
def ty9 : Ty := ⟨.str, 1, 16, [.s (.string ⟨#[]⟩)], 0, [], []⟩
def ty28 : Ty := ⟨.slice, 1, 24, [.sl 1 [] .full], 3, [], []⟩
def ty29 : Ty := ⟨.ptr, 1, 8, [.s (.pointer none)], 0, [], []⟩
def ty31 : Ty := ⟨.iface, 1, 16, [.s .nilIface], 0, [], []⟩
def ty41 : Ty := ⟨.slice, 1, 24, [.sl 3 [] .full], 47, [], []⟩
def ty42 : Ty := ⟨.ptr, 1, 8, [.s (.pointer none)], 0, [], []⟩
def ty45 : Ty := ⟨(.int .i64), 1, 8, [.s (.int .i64 0)], 0, [], []⟩
def ty47 : Ty := ⟨.struct, 3, 24, [.s (.int .i64 0), .s (.int .i64 0), .s (.int .i64 0)], 0, [some (0, 1), some (1, 1), some (2, 1)], [(.int .i64), (.int .i64), (.int .i64)]⟩
def ty89 : Ty := ⟨.slice, 1, 24, [.sl 2 [] .full], 99, [], []⟩
def ty94 : Ty := ⟨.struct, 1, 8, [.s (.int .i64 0)], 0, [none, none, some (0, 1)], []⟩
def ty96 : Ty := ⟨.struct, 4, 64, [.sl 2 [] .full, .sl 1 [] .full, .s (.int .i64 0), .s (.int .i64 0)], 0, [some (0, 1), some (1, 1), some (2, 1), some (3, 1)], []⟩
def ty99 : Ty := ⟨.struct, 2, 24, [.s (.int .i64 0), .s (.string ⟨#[]⟩)], 0, [some (0, 1), some (1, 1)], [(.int .i64), .str]⟩
def ty101 : Ty := ⟨.slice, 1, 24, [.sl 2 [] .full], 105, [], []⟩
def ty103 : Ty := ⟨.struct, 4, 64, [.sl 2 [] .full, .sl 1 [] .full, .s (.int .i64 0), .s (.int .i64 0)], 0, [some (0, 1), some (1, 1), some (2, 1), some (3, 1)], []⟩
def ty105 : Ty := ⟨.struct, 2, 16, [.s (.int .i64 0), .s (.int .i64 0)], 0, [some (0, 1), some (1, 1)], [(.int .i64), (.int .i64)]⟩
def tyT : Tr Ty := (.node 45 ty45
 (.node 28 ty28
 (.node 4 ty4
 (.node 3 ty3
 (.node 2 ty2
 .leaf .leaf) .leaf) (.node 9 ty9
 .leaf .leaf)) (.node 41 ty41
 (.node 31 ty31
 (.node 29 ty29
 .leaf .leaf) .leaf) (.node 42 ty42
 .leaf .leaf))) (.node 99 ty99
 (.node 94 ty94
 (.node 89 ty89
 (.node 47 ty47
 .leaf .leaf) .leaf) (.node 96 ty96
 .leaf .leaf)) (.node 103 ty103
 (.node 101 ty101
 .leaf .leaf) (.node 105 ty105
 .leaf .leaf))))
/- 6: placket/placketlaw04.ArenaNever -/
def lv6 : Tr (List Nat) := (.node 12 [0, 1, 5, 6, 9, 10, 11, 56]
 (.node 6 [0, 1, 5, 6, 8, 9]
 (.node 3 [0, 1, 5, 6, 7, 32]
 (.node 1 [0, 1, 5]
 (.node 0 [0, 1]
 .leaf .leaf) (.node 2 [0, 1, 5, 6, 7]
 .leaf .leaf)) (.node 5 [0, 1, 5, 6, 8]
 (.node 4 [4]
 .leaf .leaf) .leaf)) (.node 9 [0, 1, 5, 6, 8, 9, 10]
 (.node 8 [0, 1, 5, 6, 8, 9, 10, 44]
 (.node 7 [0, 1, 5, 6, 8, 9, 10]
 .leaf .leaf) .leaf) (.node 11 [0, 1, 5, 6, 8, 9, 10, 11, 53]
 (.node 10 [0, 1, 5, 6, 8, 9, 10, 11, 12]
 .leaf .leaf) .leaf))) (.node 18 [0, 1, 5, 6, 8, 9, 10, 13, 74]
 (.node 15 [0, 1, 5, 6, 8, 9, 10, 63]
 (.node 14 [0, 1, 5, 6, 8, 9, 10]
 (.node 13 [4]
 .leaf .leaf) .leaf) (.node 17 [0, 1, 5, 6, 8, 9, 10, 13]
 (.node 16 [0, 1, 5, 6, 8, 9, 10]
 .leaf .leaf) .leaf)) (.node 21 [0, 1, 5, 6, 8, 9, 10, 13, 102]
 (.node 20 [0, 1, 5, 6, 8, 9, 10, 13, 15]
 (.node 19 [0, 1, 5, 6, 8, 9, 10, 13]
 .leaf .leaf) .leaf) (.node 23 [4]
 (.node 22 [4]
 .leaf .leaf) .leaf))))
def lvF6 (r : Nat) : List Nat := getL lv6 r
noncomputable def bd6 : Code := (Try.f6.body).getD .skip
/- 7: placket/placketlaw04.ArenaPlays -/
def lv7 : Tr (List Nat) := (.node 31 [0, 1, 5, 6, 8, 9, 10, 11, 12, 15, 16, 116]
 (.node 15 [0, 1, 5, 6, 8, 9, 10, 11, 12, 13, 14]
 (.node 7 [0, 1, 5, 6, 8]
 (.node 3 [0, 1, 5, 6, 7, 36]
 (.node 1 [0, 1, 5]
 (.node 0 [0, 1]
 .leaf .leaf) (.node 2 [0, 1, 5, 6, 7]
 .leaf .leaf)) (.node 5 [0, 1, 5, 6, 7, 57]
 (.node 4 [4]
 .leaf .leaf) (.node 6 [4]
 .leaf .leaf))) (.node 11 [0, 1, 5, 6, 8, 9, 10, 11, 70]
 (.node 9 [0, 1, 5, 6, 8, 9, 10]
 (.node 8 [0, 1, 5, 6, 8, 9]
 .leaf .leaf) (.node 10 [0, 1, 5, 6, 8, 9, 10, 11]
 .leaf .leaf)) (.node 13 [0, 1, 5, 6, 8, 9, 10, 11, 12]
 (.node 12 [0, 1, 5, 6, 8, 9, 10, 11]
 .leaf .leaf) (.node 14 [0, 1, 5, 6, 8, 9, 10, 11, 12, 13]
 .leaf .leaf)))) (.node 23 [4]
 (.node 19 [0, 1, 5, 6, 8, 9, 10, 11, 12, 13, 14]
 (.node 17 [0, 1, 5, 6, 8, 9, 10, 11, 12, 13, 14]
 (.node 16 [0, 1, 5, 6, 8, 9, 10, 11, 12, 13, 14, 80]
 .leaf .leaf) (.node 18 [0, 1, 5, 6, 8, 9, 10, 11, 12, 13, 14, 89]
 .leaf .leaf)) (.node 21 [0, 1, 5, 6, 8, 9, 10, 11, 17]
 (.node 20 [0, 1, 5, 6, 8, 9, 10, 11, 12, 13, 93]
 .leaf .leaf) (.node 22 [0, 1, 5, 6, 8, 9, 10, 11, 17, 97]
 .leaf .leaf))) (.node 27 [0, 1, 5, 6, 8, 9, 10, 11, 12, 13, 93, 101]
 (.node 25 [0, 1, 5, 6, 8, 9, 10, 11]
 (.node 24 [0, 1, 5, 8, 9, 10, 11, 17]
 .leaf .leaf) (.node 26 [0, 1, 5, 6, 8, 9, 10, 11, 12, 13, 93, 101]
 .leaf .leaf)) (.node 29 [0, 1, 5, 6, 8, 9, 10, 11, 12, 13, 93, 101]
 (.node 28 [0, 1, 5, 6, 8, 9, 10, 11, 12, 13, 93, 101]
 .leaf .leaf) (.node 30 [0, 1, 5, 6, 8, 9, 10, 11, 12, 15, 16]
 .leaf .leaf))))) (.node 47 [0, 1, 5, 6, 8, 9, 10, 11, 12, 13, 188]
 (.node 39 [0, 1, 5, 6, 8, 9, 10, 11, 12, 13, 93, 146]
 (.node 35 [4]
 (.node 33 [4]
 (.node 32 [0, 1, 5, 6, 8, 9, 10, 11, 123]
 .leaf .leaf) (.node 34 [0, 1, 5, 6, 8, 9, 10, 11, 12, 15, 130]
 .leaf .leaf)) (.node 37 [0, 1, 5, 6, 8, 9, 10, 11]
 (.node 36 [0, 1, 5, 6, 8, 9, 10, 11, 12]
 .leaf .leaf) (.node 38 [0, 1, 5, 6, 8, 9, 10, 11]
 .leaf .leaf))) (.node 43 [0, 1, 5, 6, 8, 9, 10, 11, 13, 157]
 (.node 41 [0, 1, 5, 6, 8, 9, 10, 11, 13, 155]
 (.node 40 [0, 1, 5, 6, 8, 9, 10, 11, 12, 13, 93, 146]
 .leaf .leaf) (.node 42 [4]
 .leaf .leaf)) (.node 45 [0, 1, 5, 6, 8, 9, 10, 11]
 (.node 44 [0, 1, 5, 6, 8, 9, 10, 11, 13]
 .leaf .leaf) (.node 46 [0, 1, 5, 6, 8, 9, 10, 11, 12, 13, 178]
 .leaf .leaf)))) (.node 55 [0, 1, 5, 6, 8, 9, 10, 11, 18]
 (.node 51 [0, 1, 5, 6, 8, 9, 10, 11, 212]
 (.node 49 [0, 1, 5, 6, 8, 9, 10, 11, 12, 13, 190]
 (.node 48 [4]
 .leaf .leaf) (.node 50 [0, 1, 5, 6, 8, 9, 10, 11]
 .leaf .leaf)) (.node 53 [0, 1, 5, 6, 8, 9, 10, 11, 18]
 (.node 52 [4]
 .leaf .leaf) (.node 54 [0, 1, 5, 6, 8, 9, 10, 11, 18, 216]
 .leaf .leaf))) (.node 59 [5, 6, 21, 22]
 (.node 57 [0, 1, 5, 6, 8, 9, 10, 11, 18, 237]
 (.node 56 [0, 1, 5, 6, 8, 9, 10, 11, 18, 19, 20]
 .leaf .leaf) (.node 58 [4]
 .leaf .leaf)) (.node 61 [4]
 (.node 60 [5, 21, 22, 24]
 .leaf .leaf) .leaf)))))
def lvF7 (r : Nat) : List Nat := getL lv7 r
noncomputable def bd7 : Code := (Try.f7.body).getD .skip
/- 27: placket/placketlaw04.up -/
def lv27 : Tr (List Nat) := (.node 5 [1, 4, 5, 6]
 (.node 2 [1, 2, 4]
 (.node 1 [1, 2]
 (.node 0 []
 .leaf .leaf) .leaf) (.node 4 [0]
 (.node 3 [1, 4, 27]
 .leaf .leaf) .leaf)) (.node 8 [1, 4, 5, 6, 8, 9, 10, 11]
 (.node 7 [1, 4, 5, 6, 8, 9]
 (.node 6 [1, 4, 5, 6, 8]
 .leaf .leaf) .leaf) (.node 10 [0]
 (.node 9 [1, 4, 5, 6, 8, 9, 10, 11, 13]
 .leaf .leaf) .leaf)))
def lvF27 (r : Nat) : List Nat := getL lv27 r
noncomputable def bd27 : Code := (Try.f27.body).getD .skip
/- 28: placket/arena.New[string] -/
def lv28 : Tr (List Nat) := (.node 2 [2, 3]
 (.node 1 [0, 9]
 (.node 0 [0]
 .leaf .leaf) .leaf) (.node 3 [2, 3]
 .leaf .leaf))
def lvF28 (r : Nat) : List Nat := getL lv28 r
noncomputable def bd28 : Code := (Try.f28.body).getD .skip
/- 29: (*placket/arena.Arena[string]).Put -/
def lv29 : Tr (List Nat) := (.node 5 [0, 1, 6, 7, 26]
 (.node 2 [4, 5]
 (.node 1 [0, 1, 14]
 (.node 0 [0, 1]
 .leaf .leaf) .leaf) (.node 4 [0, 1, 6, 7]
 (.node 3 [0, 1, 6]
 .leaf .leaf) .leaf)) (.node 8 [4, 5]
 (.node 7 [6]
 (.node 6 [0, 6, 7]
 .leaf .leaf) .leaf) (.node 10 [4, 5]
 (.node 9 [6]
 .leaf .leaf) .leaf)))
def lvF29 (r : Nat) : List Nat := getL lv29 r
noncomputable def bd29 : Code := (Try.f29.body).getD .skip
/- 30: (*placket/arena.Arena[string]).Drop -/
def lv30 : Tr (List Nat) := (.node 3 [4]
 (.node 1 [0, 5]
 (.node 0 [0, 1]
 .leaf .leaf) (.node 2 [0, 5, 10]
 .leaf .leaf)) (.node 5 []
 (.node 4 [0, 5]
 .leaf .leaf) (.node 6 [4]
 .leaf .leaf)))
def lvF30 (r : Nat) : List Nat := getL lv30 r
noncomputable def bd30 : Code := (Try.f30.body).getD .skip
/- 31: (*placket/arena.Arena[string]).Get -/
def lv31 : Tr (List Nat) := (.node 3 [4, 5]
 (.node 1 [0, 6]
 (.node 0 [0, 1]
 .leaf .leaf) (.node 2 [0, 6, 12]
 .leaf .leaf)) (.node 5 [4, 5]
 (.node 4 [7]
 .leaf .leaf) .leaf))
def lvF31 (r : Nat) : List Nat := getL lv31 r
noncomputable def bd31 : Code := (Try.f31.body).getD .skip
/- 32: (*placket/arena.Arena[string]).Set -/
def lv32 : Tr (List Nat) := (.node 3 [6]
 (.node 1 [0, 2, 7]
 (.node 0 [0, 1, 2]
 .leaf .leaf) (.node 2 [0, 2, 7, 12]
 .leaf .leaf)) (.node 5 [6]
 (.node 4 []
 .leaf .leaf) .leaf))
def lvF32 (r : Nat) : List Nat := getL lv32 r
noncomputable def bd32 : Code := (Try.f32.body).getD .skip
/- 33: (*placket/arena.Arena[string]).Live -/
def lv33 : Tr (List Nat) := (.node 1 [2]
 (.node 0 [0]
 .leaf .leaf) .leaf)
def lvF33 (r : Nat) : List Nat := getL lv33 r
noncomputable def bd33 : Code := (Try.f33.body).getD .skip
/- 34: placket/arena.New[int] -/
def lv34 : Tr (List Nat) := (.node 2 [2, 3]
 (.node 1 [0, 9]
 (.node 0 [0]
 .leaf .leaf) .leaf) (.node 3 [2, 3]
 .leaf .leaf))
def lvF34 (r : Nat) : List Nat := getL lv34 r
noncomputable def bd34 : Code := (Try.f34.body).getD .skip
/- 35: placket/placketlaw04.Pick -/
def lv35 : Tr (List Nat) := (.node 2 [0, 1]
 (.node 1 [0, 1, 6]
 (.node 0 [0, 1]
 .leaf .leaf) .leaf) (.node 3 [4]
 .leaf .leaf))
def lvF35 (r : Nat) : List Nat := getL lv35 r
noncomputable def bd35 : Code := (Try.f35.body).getD .skip
/- 36: (*placket/arena.Arena[int]).Put -/
def lv36 : Tr (List Nat) := (.node 5 [0, 1, 6, 7, 26]
 (.node 2 [4, 5]
 (.node 1 [0, 1, 14]
 (.node 0 [0, 1]
 .leaf .leaf) .leaf) (.node 4 [0, 1, 6, 7]
 (.node 3 [0, 1, 6]
 .leaf .leaf) .leaf)) (.node 8 [4, 5]
 (.node 7 [6]
 (.node 6 [0, 6, 7]
 .leaf .leaf) .leaf) (.node 10 [4, 5]
 (.node 9 [6]
 .leaf .leaf) .leaf)))
def lvF36 (r : Nat) : List Nat := getL lv36 r
noncomputable def bd36 : Code := (Try.f36.body).getD .skip
/- 37: placket/placketlaw00.Code -/
def lv37 : Tr (List Nat) := (.node 4 [0, 3, 7]
 (.node 2 [2]
 (.node 1 [0, 5]
 (.node 0 [0]
 .leaf .leaf) .leaf) (.node 3 [0, 3]
 .leaf .leaf)) (.node 7 [2]
 (.node 6 [0, 3, 13]
 (.node 5 [0, 3]
 .leaf .leaf) .leaf) (.node 8 [2]
 .leaf .leaf)))
def lvF37 (r : Nat) : List Nat := getL lv37 r
noncomputable def bd37 : Code := (Try.f37.body).getD .skip
/- 38: (*placket/arena.Arena[int]).Drop -/
def lv38 : Tr (List Nat) := (.node 3 [4]
 (.node 1 [0, 5]
 (.node 0 [0, 1]
 .leaf .leaf) (.node 2 [0, 5, 10]
 .leaf .leaf)) (.node 5 []
 (.node 4 [0, 5]
 .leaf .leaf) (.node 6 [4]
 .leaf .leaf)))
def lvF38 (r : Nat) : List Nat := getL lv38 r
noncomputable def bd38 : Code := (Try.f38.body).getD .skip
/- 39: (*placket/arena.Arena[int]).Set -/
def lv39 : Tr (List Nat) := (.node 3 [6]
 (.node 1 [0, 2, 7]
 (.node 0 [0, 1, 2]
 .leaf .leaf) (.node 2 [0, 2, 7, 12]
 .leaf .leaf)) (.node 5 [6]
 (.node 4 []
 .leaf .leaf) .leaf))
def lvF39 (r : Nat) : List Nat := getL lv39 r
noncomputable def bd39 : Code := (Try.f39.body).getD .skip
/- 40: (*placket/arena.Arena[int]).Clone -/
def lv40 : Tr (List Nat) := (.node 2 [3]
 (.node 1 [0, 3]
 (.node 0 [0]
 .leaf .leaf) .leaf) (.node 3 [2]
 .leaf .leaf))
def lvF40 (r : Nat) : List Nat := getL lv40 r
noncomputable def bd40 : Code := (Try.f40.body).getD .skip
/- 41: (*placket/arena.Arena[int]).Live -/
def lv41 : Tr (List Nat) := (.node 1 [2]
 (.node 0 [0]
 .leaf .leaf) .leaf)
def lvF41 (r : Nat) : List Nat := getL lv41 r
noncomputable def bd41 : Code := (Try.f41.body).getD .skip
/- 42: (*placket/arena.Arena[int]).Next -/
def lv42 : Tr (List Nat) := (.node 1 [2]
 (.node 0 [0]
 .leaf .leaf) .leaf)
def lvF42 (r : Nat) : List Nat := getL lv42 r
noncomputable def bd42 : Code := (Try.f42.body).getD .skip
/- 43: (*placket/arena.Arena[int]).Room -/
def lv43 : Tr (List Nat) := (.node 1 [2]
 (.node 0 [0]
 .leaf .leaf) .leaf)
def lvF43 (r : Nat) : List Nat := getL lv43 r
noncomputable def bd43 : Code := (Try.f43.body).getD .skip
/- 44: (*placket/arena.Arena[int]).Get -/
def lv44 : Tr (List Nat) := (.node 3 [4, 5]
 (.node 1 [0, 6]
 (.node 0 [0, 1]
 .leaf .leaf) (.node 2 [0, 6, 12]
 .leaf .leaf)) (.node 5 [4, 5]
 (.node 4 [7]
 .leaf .leaf) .leaf))
def lvF44 (r : Nat) : List Nat := getL lv44 r
noncomputable def bd44 : Code := (Try.f44.body).getD .skip
/- 77: (*sync/atomic.Int64).Add -/
def lv77 : Tr (List Nat) := (.node 1 [4]
 (.node 0 [0, 1]
 .leaf .leaf) .leaf)
def lvF77 (r : Nat) : List Nat := getL lv77 r
noncomputable def bd77 : Code := (Try.f77.body).getD .skip
/- 78: (*placket/arena.Arena[string]).at -/
def lv78 : Tr (List Nat) := (.node 4 [1, 5, 10, 11, 12, 24]
 (.node 2 [1, 10, 11, 12, 13]
 (.node 1 [1, 10, 11, 12]
 (.node 0 [0, 1]
 .leaf .leaf) .leaf) (.node 3 [1, 5, 6, 10, 11, 12]
 .leaf .leaf)) (.node 6 [1, 10, 11, 12]
 (.node 5 [4]
 .leaf .leaf) (.node 7 [4]
 .leaf .leaf)))
def lvF78 (r : Nat) : List Nat := getL lv78 r
noncomputable def bd78 : Code := (Try.f78.body).getD .skip
/- 79: (*placket/arena.Arena[int]).at -/
def lv79 : Tr (List Nat) := (.node 4 [1, 5, 10, 11, 12, 24]
 (.node 2 [1, 10, 11, 12, 13]
 (.node 1 [1, 10, 11, 12]
 (.node 0 [0, 1]
 .leaf .leaf) .leaf) (.node 3 [1, 5, 6, 10, 11, 12]
 .leaf .leaf)) (.node 6 [1, 10, 11, 12]
 (.node 5 [4]
 .leaf .leaf) (.node 7 [4]
 .leaf .leaf)))
def lvF79 (r : Nat) : List Nat := getL lv79 r
noncomputable def bd79 : Code := (Try.f79.body).getD .skip
/- 80: (*sync/atomic.Int64).Store -/
def lv80 : Tr (List Nat) := (.node 0 []
 .leaf .leaf)
def lvF80 (r : Nat) : List Nat := getL lv80 r
noncomputable def bd80 : Code := (Try.f80.body).getD .skip
/- 81: (*sync/atomic.Int64).Load -/
def lv81 : Tr (List Nat) := (.node 1 [2]
 (.node 0 [0]
 .leaf .leaf) .leaf)
def lvF81 (r : Nat) : List Nat := getL lv81 r
noncomputable def bd81 : Code := (Try.f81.body).getD .skip
noncomputable def fnT : Tr Func := (.node 37 Try.f37
 (.node 31 Try.f31
 (.node 28 Try.f28
 (.node 7 Try.f7
 (.node 6 Try.f6
 .leaf .leaf) (.node 27 Try.f27
 .leaf .leaf)) (.node 30 Try.f30
 (.node 29 Try.f29
 .leaf .leaf) .leaf)) (.node 34 Try.f34
 (.node 33 Try.f33
 (.node 32 Try.f32
 .leaf .leaf) .leaf) (.node 36 Try.f36
 (.node 35 Try.f35
 .leaf .leaf) .leaf))) (.node 44 Try.f44
 (.node 41 Try.f41
 (.node 39 Try.f39
 (.node 38 Try.f38
 .leaf .leaf) (.node 40 Try.f40
 .leaf .leaf)) (.node 43 Try.f43
 (.node 42 Try.f42
 .leaf .leaf) .leaf)) (.node 79 Try.f79
 (.node 78 Try.f78
 (.node 77 Try.f77
 .leaf .leaf) .leaf) (.node 81 Try.f81
 (.node 80 Try.f80
 .leaf .leaf) .leaf))))
def liveT : Tr (Tr (List Nat)) := (.node 37 lv37
 (.node 31 lv31
 (.node 28 lv28
 (.node 7 lv7
 (.node 6 lv6
 .leaf .leaf) (.node 27 lv27
 .leaf .leaf)) (.node 30 lv30
 (.node 29 lv29
 .leaf .leaf) .leaf)) (.node 34 lv34
 (.node 33 lv33
 (.node 32 lv32
 .leaf .leaf) .leaf) (.node 36 lv36
 (.node 35 lv35
 .leaf .leaf) .leaf))) (.node 44 lv44
 (.node 41 lv41
 (.node 39 lv39
 (.node 38 lv38
 .leaf .leaf) (.node 40 lv40
 .leaf .leaf)) (.node 43 lv43
 (.node 42 lv42
 .leaf .leaf) .leaf)) (.node 79 lv79
 (.node 78 lv78
 (.node 77 lv77
 .leaf .leaf) .leaf) (.node 81 lv81
 (.node 80 lv80
 .leaf .leaf) .leaf))))
def consT : Tr (List Nat) := .leaf
def pureT : Tr Unit := (.node 44 ()
 (.node 41 ()
 (.node 33 ()
 (.node 31 ()
 .leaf .leaf) .leaf) (.node 43 ()
 (.node 42 ()
 .leaf .leaf) .leaf)) (.node 81 ()
 (.node 79 ()
 (.node 78 ()
 .leaf .leaf) .leaf) (.node 99 ()
 .leaf .leaf)))
def extT : Tr (List AV → Seg → Prog) := (.node 98 xStoreInt64
 (.node 97 xAddInt64
 .leaf .leaf) (.node 99 xLoadInt64
 .leaf .leaf))
def liveOf (f : Nat) : Nat → List Nat := match liveT.get f with
  | some t => getL t
  | none => fun _ => []
noncomputable def fnF (f : Nat) : Option Func := fnT.get f
def tyF (t : Nat) : Option Ty := tyT.get t
def consF (f : Nat) : List Nat := getL consT f
def pureF (f : Nat) : Bool := (pureT.get f).isSome
def extF (f : Nat) : Option (List AV → Seg → Prog) := extT.get f
noncomputable def envV (A : Ar) : Env := { A := A, fn := fnF, ty := tyF, live := liveOf, cons := consF, pure := pureF, ext := extF }
end Go.Va
