/- The functions that the statement reaches, by equations: no statement of its own. -/
import Derived.Test.YtmklimlepgiffaaVa40
import Derived.Test.YtmklimlepgiffaaProg
set_option linter.unusedVariables false
set_option linter.unusedSimpArgs false
set_option linter.unusedSectionVars false
set_option linter.unusedVariables false
namespace Go.Va
/-- slices.Clone of a list of elements of z cells, as a function -/
def yClone (z0 : Nat) (args : List AV) (O : Seg) : Prog := match args, O with
  | [.sl z [] .imm], [] => okR (.sl z [] .full) []
  | [.sl z [] .ro], [] => okR (.sl z [] .full) []
  | [.sl z (x :: xs) .imm], [] => bif Nat.beq z z0 && Nat.ble xs.length 1000000 then okR (.sl z0 (x :: xs) .full) [] else noR
  | [.sl z (x :: xs) .ro], [] => bif Nat.beq z z0 && Nat.ble xs.length 1000000 then okR (.sl z0 (x :: xs) .full) [] else noR
  | _, _ => noR
end Go.Va
set_option maxRecDepth 20000
namespace Go.Va.Cl
open Go.Va
open Go.Proofs
def ty45 : Ty := ⟨(.int .i64), 1, 8, [.s (.int .i64 0)], 0, [], []⟩
def ty59 : Ty := ⟨.slice, 1, 24, [.sl 3 [] .full], 73, [], []⟩
def ty73 : Ty := ⟨.struct, 3, 40, [.s (.string ⟨#[]⟩), .s (.string ⟨#[]⟩), .s (.bool false)], 0, [some (0, 1), some (1, 1), some (2, 1)], [.str, .str, .bool]⟩
def tyT : Tr Ty := (.node 59 ty59
 (.node 45 ty45
 .leaf .leaf) (.node 73 ty73
 .leaf .leaf))
/- 106: slices.Clone[[]placket/api.Attr,placket/api.Attr] -/
def lv106 : Tr (List Nat) := (.node 2 [2]
 (.node 1 [0, 4]
 (.node 0 [0]
 .leaf .leaf) .leaf) (.node 3 [2]
 .leaf .leaf))
def lvF106 (r : Nat) : List Nat := getL lv106 r
noncomputable def bd106 : Code := (Try.f106.body).getD .skip
noncomputable def fnT : Tr Func := (.node 106 Try.f106
 .leaf .leaf)
def liveT : Tr (Tr (List Nat)) := (.node 106 lv106
 .leaf .leaf)
def consT : Tr (List Nat) := .leaf
def pureT : Tr Unit := .leaf
def extT : Tr (List AV → Seg → Prog) := .leaf
def liveOf (f : Nat) : Nat → List Nat := match liveT.get f with
  | some t => getL t
  | none => fun _ => []
noncomputable def fnF (f : Nat) : Option Func := fnT.get f
def tyF (t : Nat) : Option Ty := tyT.get t
def consF (f : Nat) : List Nat := getL consT f
def pureF (f : Nat) : Bool := (pureT.get f).isSome
def extF (f : Nat) : Option (List AV → Seg → Prog) := extT.get f
noncomputable def envV (A : Ar) : Env := { A := A, fn := fnF, ty := tyF, live := liveOf, cons := consF, pure := pureF, ext := extF }
end Go.Va.Cl
set_option maxRecDepth 20000
namespace Go.Va
open Go.Proofs
def ty2 : Ty := ⟨(.int .i64), 1, 8, [.s (.int .i64 0)], 0, [], []⟩
def ty3 : Ty := ⟨(.int .i64), 1, 8, [.s (.int .i64 0)], 0, [], []⟩
def ty4 : Ty := ⟨.bool, 1, 1, [.s (.bool false)], 0, [], []⟩
def ty5 : Ty := ⟨(.int .u8), 1, 1, [.s (.int .u8 0)], 0, [], []⟩
def ty9 : Ty := ⟨.str, 1, 16, [.s (.string ⟨#[]⟩)], 0, [], []⟩
def ty28 : Ty := ⟨.slice, 1, 24, [.sl 1 [] .full], 3, [], []⟩
def ty29 : Ty := ⟨.ptr, 1, 8, [.s (.pointer none)], 0, [], []⟩
def ty31 : Ty := ⟨.iface, 1, 16, [.s .nilIface], 0, [], []⟩
def ty41 : Ty := ⟨.slice, 1, 24, [.sl 3 [] .full], 47, [], []⟩
def ty42 : Ty := ⟨.ptr, 1, 8, [.s (.pointer none)], 0, [], []⟩
def ty45 : Ty := ⟨(.int .i64), 1, 8, [.s (.int .i64 0)], 0, [], []⟩
def ty47 : Ty := ⟨.struct, 3, 24, [.s (.int .i64 0), .s (.int .i64 0), .s (.int .i64 0)], 0, [some (0, 1), some (1, 1), some (2, 1)], [(.int .i64), (.int .i64), (.int .i64)]⟩
def ty59 : Ty := ⟨.slice, 1, 24, [.sl 3 [] .full], 73, [], []⟩
def ty73 : Ty := ⟨.struct, 3, 40, [.s (.string ⟨#[]⟩), .s (.string ⟨#[]⟩), .s (.bool false)], 0, [some (0, 1), some (1, 1), some (2, 1)], [.str, .str, .bool]⟩
def ty89 : Ty := ⟨.slice, 1, 24, [.sl 2 [] .full], 99, [], []⟩
def ty94 : Ty := ⟨.struct, 1, 8, [.s (.int .i64 0)], 0, [none, none, some (0, 1)], []⟩
def ty96 : Ty := ⟨.struct, 4, 64, [.sl 2 [] .full, .sl 1 [] .full, .s (.int .i64 0), .s (.int .i64 0)], 0, [some (0, 1), some (1, 1), some (2, 1), some (3, 1)], []⟩
def ty99 : Ty := ⟨.struct, 2, 24, [.s (.int .i64 0), .s (.string ⟨#[]⟩)], 0, [some (0, 1), some (1, 1)], [(.int .i64), .str]⟩
def ty101 : Ty := ⟨.slice, 1, 24, [.sl 2 [] .full], 105, [], []⟩
def ty103 : Ty := ⟨.struct, 4, 64, [.sl 2 [] .full, .sl 1 [] .full, .s (.int .i64 0), .s (.int .i64 0)], 0, [some (0, 1), some (1, 1), some (2, 1), some (3, 1)], []⟩
def ty105 : Ty := ⟨.struct, 2, 16, [.s (.int .i64 0), .s (.int .i64 0)], 0, [some (0, 1), some (1, 1)], [(.int .i64), (.int .i64)]⟩
def tyT : Tr Ty := (.node 45 ty45
 (.node 28 ty28
 (.node 4 ty4
 (.node 3 ty3
 (.node 2 ty2
 .leaf .leaf) .leaf) (.node 9 ty9
 (.node 5 ty5
 .leaf .leaf) .leaf)) (.node 41 ty41
 (.node 31 ty31
 (.node 29 ty29
 .leaf .leaf) .leaf) (.node 42 ty42
 .leaf .leaf))) (.node 96 ty96
 (.node 73 ty73
 (.node 59 ty59
 (.node 47 ty47
 .leaf .leaf) .leaf) (.node 94 ty94
 (.node 89 ty89
 .leaf .leaf) .leaf)) (.node 103 ty103
 (.node 101 ty101
 (.node 99 ty99
 .leaf .leaf) .leaf) (.node 105 ty105
 .leaf .leaf))))
/- 6: placket/placketlaw04.ArenaNever -/
def lv6 : Tr (List Nat) := (.node 12 [0, 1, 5, 6, 9, 10, 11, 56]
 (.node 6 [0, 1, 5, 6, 8, 9]
 (.node 3 [0, 1, 5, 6, 7, 32]
 (.node 1 [0, 1, 5]
 (.node 0 [0, 1]
 .leaf .leaf) (.node 2 [0, 1, 5, 6, 7]
 .leaf .leaf)) (.node 5 [0, 1, 5, 6, 8]
 (.node 4 [4]
 .leaf .leaf) .leaf)) (.node 9 [0, 1, 5, 6, 8, 9, 10]
 (.node 8 [0, 1, 5, 6, 8, 9, 10, 44]
 (.node 7 [0, 1, 5, 6, 8, 9, 10]
 .leaf .leaf) .leaf) (.node 11 [0, 1, 5, 6, 8, 9, 10, 11, 53]
 (.node 10 [0, 1, 5, 6, 8, 9, 10, 11, 12]
 .leaf .leaf) .leaf))) (.node 18 [0, 1, 5, 6, 8, 9, 10, 13, 74]
 (.node 15 [0, 1, 5, 6, 8, 9, 10, 63]
 (.node 14 [0, 1, 5, 6, 8, 9, 10]
 (.node 13 [4]
 .leaf .leaf) .leaf) (.node 17 [0, 1, 5, 6, 8, 9, 10, 13]
 (.node 16 [0, 1, 5, 6, 8, 9, 10]
 .leaf .leaf) .leaf)) (.node 21 [0, 1, 5, 6, 8, 9, 10, 13, 102]
 (.node 20 [0, 1, 5, 6, 8, 9, 10, 13, 15]
 (.node 19 [0, 1, 5, 6, 8, 9, 10, 13]
 .leaf .leaf) .leaf) (.node 23 [4]
 (.node 22 [4]
 .leaf .leaf) .leaf))))
def lvF6 (r : Nat) : List Nat := getL lv6 r
noncomputable def bd6 : Code := (Try.f6.body).getD .skip
/- 7: placket/placketlaw04.ArenaPlays -/
def lv7 : Tr (List Nat) := (.node 31 [0, 1, 5, 6, 8, 9, 10, 11, 12, 15, 16, 116]
 (.node 15 [0, 1, 5, 6, 8, 9, 10, 11, 12, 13, 14]
 (.node 7 [0, 1, 5, 6, 8]
 (.node 3 [0, 1, 5, 6, 7, 36]
 (.node 1 [0, 1, 5]
 (.node 0 [0, 1]
 .leaf .leaf) (.node 2 [0, 1, 5, 6, 7]
 .leaf .leaf)) (.node 5 [0, 1, 5, 6, 7, 57]
 (.node 4 [4]
 .leaf .leaf) (.node 6 [4]
 .leaf .leaf))) (.node 11 [0, 1, 5, 6, 8, 9, 10, 11, 70]
 (.node 9 [0, 1, 5, 6, 8, 9, 10]
 (.node 8 [0, 1, 5, 6, 8, 9]
 .leaf .leaf) (.node 10 [0, 1, 5, 6, 8, 9, 10, 11]
 .leaf .leaf)) (.node 13 [0, 1, 5, 6, 8, 9, 10, 11, 12]
 (.node 12 [0, 1, 5, 6, 8, 9, 10, 11]
 .leaf .leaf) (.node 14 [0, 1, 5, 6, 8, 9, 10, 11, 12, 13]
 .leaf .leaf)))) (.node 23 [4]
 (.node 19 [0, 1, 5, 6, 8, 9, 10, 11, 12, 13, 14]
 (.node 17 [0, 1, 5, 6, 8, 9, 10, 11, 12, 13, 14]
 (.node 16 [0, 1, 5, 6, 8, 9, 10, 11, 12, 13, 14, 80]
 .leaf .leaf) (.node 18 [0, 1, 5, 6, 8, 9, 10, 11, 12, 13, 14, 89]
 .leaf .leaf)) (.node 21 [0, 1, 5, 6, 8, 9, 10, 11, 17]
 (.node 20 [0, 1, 5, 6, 8, 9, 10, 11, 12, 13, 93]
 .leaf .leaf) (.node 22 [0, 1, 5, 6, 8, 9, 10, 11, 17, 97]
 .leaf .leaf))) (.node 27 [0, 1, 5, 6, 8, 9, 10, 11, 12, 13, 93, 101]
 (.node 25 [0, 1, 5, 6, 8, 9, 10, 11]
 (.node 24 [0, 1, 5, 8, 9, 10, 11, 17]
 .leaf .leaf) (.node 26 [0, 1, 5, 6, 8, 9, 10, 11, 12, 13, 93, 101]
 .leaf .leaf)) (.node 29 [0, 1, 5, 6, 8, 9, 10, 11, 12, 13, 93, 101]
 (.node 28 [0, 1, 5, 6, 8, 9, 10, 11, 12, 13, 93, 101]
 .leaf .leaf) (.node 30 [0, 1, 5, 6, 8, 9, 10, 11, 12, 15, 16]
 .leaf .leaf))))) (.node 47 [0, 1, 5, 6, 8, 9, 10, 11, 12, 13, 188]
 (.node 39 [0, 1, 5, 6, 8, 9, 10, 11, 12, 13, 93, 146]
 (.node 35 [4]
 (.node 33 [4]
 (.node 32 [0, 1, 5, 6, 8, 9, 10, 11, 123]
 .leaf .leaf) (.node 34 [0, 1, 5, 6, 8, 9, 10, 11, 12, 15, 130]
 .leaf .leaf)) (.node 37 [0, 1, 5, 6, 8, 9, 10, 11]
 (.node 36 [0, 1, 5, 6, 8, 9, 10, 11, 12]
 .leaf .leaf) (.node 38 [0, 1, 5, 6, 8, 9, 10, 11]
 .leaf .leaf))) (.node 43 [0, 1, 5, 6, 8, 9, 10, 11, 13, 157]
 (.node 41 [0, 1, 5, 6, 8, 9, 10, 11, 13, 155]
 (.node 40 [0, 1, 5, 6, 8, 9, 10, 11, 12, 13, 93, 146]
 .leaf .leaf) (.node 42 [4]
 .leaf .leaf)) (.node 45 [0, 1, 5, 6, 8, 9, 10, 11]
 (.node 44 [0, 1, 5, 6, 8, 9, 10, 11, 13]
 .leaf .leaf) (.node 46 [0, 1, 5, 6, 8, 9, 10, 11, 12, 13, 178]
 .leaf .leaf)))) (.node 55 [0, 1, 5, 6, 8, 9, 10, 11, 18]
 (.node 51 [0, 1, 5, 6, 8, 9, 10, 11, 212]
 (.node 49 [0, 1, 5, 6, 8, 9, 10, 11, 12, 13, 190]
 (.node 48 [4]
 .leaf .leaf) (.node 50 [0, 1, 5, 6, 8, 9, 10, 11]
 .leaf .leaf)) (.node 53 [0, 1, 5, 6, 8, 9, 10, 11, 18]
 (.node 52 [4]
 .leaf .leaf) (.node 54 [0, 1, 5, 6, 8, 9, 10, 11, 18, 216]
 .leaf .leaf))) (.node 59 [5, 6, 21, 22]
 (.node 57 [0, 1, 5, 6, 8, 9, 10, 11, 18, 237]
 (.node 56 [0, 1, 5, 6, 8, 9, 10, 11, 18, 19, 20]
 .leaf .leaf) (.node 58 [4]
 .leaf .leaf)) (.node 61 [4]
 (.node 60 [5, 21, 22, 24]
 .leaf .leaf) .leaf)))))
def lvF7 (r : Nat) : List Nat := getL lv7 r
noncomputable def bd7 : Code := (Try.f7.body).getD .skip
/- 12: placket/placketlaw03.AttrTells -/
def lv12 : Tr (List Nat) := (.node 8 [0, 1, 2, 7, 8, 9, 10]
 (.node 4 [0, 1, 2, 7, 8]
 (.node 2 [0, 1, 2, 7, 26]
 (.node 1 [0, 1, 2, 7]
 (.node 0 [0, 1, 2]
 .leaf .leaf) .leaf) (.node 3 [6]
 .leaf .leaf)) (.node 6 [0, 1, 2, 7, 8, 9, 10]
 (.node 5 [0, 1, 2, 7, 8, 9]
 .leaf .leaf) (.node 7 [0, 1, 2, 7, 8, 9, 10, 33]
 .leaf .leaf))) (.node 12 [0, 1, 7, 8, 9, 11, 12]
 (.node 10 [0, 1, 2, 7, 8, 10]
 (.node 9 [0, 1, 2, 7, 8, 9, 10, 42]
 .leaf .leaf) (.node 11 [0, 1, 2, 7, 8, 9, 10]
 .leaf .leaf)) (.node 14 [6]
 (.node 13 [0, 1, 7, 82]
 .leaf .leaf) (.node 15 [6]
 .leaf .leaf))))
def lvF12 (r : Nat) : List Nat := getL lv12 r
noncomputable def bd12 : Code := (Try.f12.body).getD .skip
/- 13: placket/placketlaw03.AttrJoins -/
def lv13 : Tr (List Nat) := (.node 3 [4]
 (.node 1 [0, 1, 5]
 (.node 0 [0, 1]
 .leaf .leaf) (.node 2 [0, 1, 5, 26]
 .leaf .leaf)) (.node 5 [1, 5, 6, 7]
 (.node 4 [1, 5, 6]
 .leaf .leaf) (.node 6 [4]
 .leaf .leaf)))
def lvF13 (r : Nat) : List Nat := getL lv13 r
noncomputable def bd13 : Code := (Try.f13.body).getD .skip
/- 16: placket/name.May -/
def lv16 : Tr (List Nat) := (.node 5 [0, 3, 19, 20]
 (.node 2 [2]
 (.node 1 [0, 17]
 (.node 0 [0]
 .leaf .leaf) .leaf) (.node 4 [0, 19, 20, 21]
 (.node 3 [0, 19, 20]
 .leaf .leaf) .leaf)) (.node 8 [2]
 (.node 7 [0, 19, 20, 40]
 (.node 6 [0, 4, 19, 20]
 .leaf .leaf) .leaf) (.node 10 [2]
 (.node 9 [0, 19, 20]
 .leaf .leaf) .leaf)))
def lvF16 (r : Nat) : List Nat := getL lv16 r
noncomputable def bd16 : Code := (Try.f16.body).getD .skip
/- 17: placket/placketref01.Name -/
def lv17 : Tr (List Nat) := (.node 5 [0, 3]
 (.node 2 [2]
 (.node 1 [0, 12]
 (.node 0 [0]
 .leaf .leaf) .leaf) (.node 4 [0, 3, 16]
 (.node 3 [0, 3]
 .leaf .leaf) .leaf)) (.node 8 [2]
 (.node 7 [0, 3, 46]
 (.node 6 [0, 3, 4]
 .leaf .leaf) .leaf) (.node 9 [2]
 .leaf .leaf)))
def lvF17 (r : Nat) : List Nat := getL lv17 r
noncomputable def bd17 : Code := (Try.f17.body).getD .skip
/- 18: placket/name.Text -/
def lv18 : Tr (List Nat) := (.node 4 [0, 5, 6, 18]
 (.node 2 [0, 5, 6, 7]
 (.node 1 [0, 5, 6]
 (.node 0 [0]
 .leaf .leaf) .leaf) (.node 3 [0, 3, 5, 6]
 .leaf .leaf)) (.node 6 [0, 5, 6]
 (.node 5 [2]
 .leaf .leaf) (.node 7 [2]
 .leaf .leaf)))
def lvF18 (r : Nat) : List Nat := getL lv18 r
noncomputable def bd18 : Code := (Try.f18.body).getD .skip
/- 19: placket/placketref01.Text -/
def lv19 : Tr (List Nat) := (.node 3 [0, 3]
 (.node 1 [0, 3]
 (.node 0 [0]
 .leaf .leaf) (.node 2 [0, 3, 7]
 .leaf .leaf)) (.node 5 [2]
 (.node 4 [0, 3, 19]
 .leaf .leaf) (.node 6 [2]
 .leaf .leaf)))
def lvF19 (r : Nat) : List Nat := getL lv19 r
noncomputable def bd19 : Code := (Try.f19.body).getD .skip
/- 27: placket/placketlaw04.up -/
def lv27 : Tr (List Nat) := (.node 5 [1, 4, 5, 6]
 (.node 2 [1, 2, 4]
 (.node 1 [1, 2]
 (.node 0 []
 .leaf .leaf) .leaf) (.node 4 [0]
 (.node 3 [1, 4, 27]
 .leaf .leaf) .leaf)) (.node 8 [1, 4, 5, 6, 8, 9, 10, 11]
 (.node 7 [1, 4, 5, 6, 8, 9]
 (.node 6 [1, 4, 5, 6, 8]
 .leaf .leaf) .leaf) (.node 10 [0]
 (.node 9 [1, 4, 5, 6, 8, 9, 10, 11, 13]
 .leaf .leaf) .leaf)))
def lvF27 (r : Nat) : List Nat := getL lv27 r
noncomputable def bd27 : Code := (Try.f27.body).getD .skip
/- 28: placket/arena.New[string] -/
def lv28 : Tr (List Nat) := (.node 2 [2, 3]
 (.node 1 [0, 9]
 (.node 0 [0]
 .leaf .leaf) .leaf) (.node 3 [2, 3]
 .leaf .leaf))
def lvF28 (r : Nat) : List Nat := getL lv28 r
noncomputable def bd28 : Code := (Try.f28.body).getD .skip
/- 29: (*placket/arena.Arena[string]).Put -/
def lv29 : Tr (List Nat) := (.node 5 [0, 1, 6, 7, 26]
 (.node 2 [4, 5]
 (.node 1 [0, 1, 14]
 (.node 0 [0, 1]
 .leaf .leaf) .leaf) (.node 4 [0, 1, 6, 7]
 (.node 3 [0, 1, 6]
 .leaf .leaf) .leaf)) (.node 8 [4, 5]
 (.node 7 [6]
 (.node 6 [0, 6, 7]
 .leaf .leaf) .leaf) (.node 10 [4, 5]
 (.node 9 [6]
 .leaf .leaf) .leaf)))
def lvF29 (r : Nat) : List Nat := getL lv29 r
noncomputable def bd29 : Code := (Try.f29.body).getD .skip
/- 30: (*placket/arena.Arena[string]).Drop -/
def lv30 : Tr (List Nat) := (.node 3 [4]
 (.node 1 [0, 5]
 (.node 0 [0, 1]
 .leaf .leaf) (.node 2 [0, 5, 10]
 .leaf .leaf)) (.node 5 []
 (.node 4 [0, 5]
 .leaf .leaf) (.node 6 [4]
 .leaf .leaf)))
def lvF30 (r : Nat) : List Nat := getL lv30 r
noncomputable def bd30 : Code := (Try.f30.body).getD .skip
/- 31: (*placket/arena.Arena[string]).Get -/
def lv31 : Tr (List Nat) := (.node 3 [4, 5]
 (.node 1 [0, 6]
 (.node 0 [0, 1]
 .leaf .leaf) (.node 2 [0, 6, 12]
 .leaf .leaf)) (.node 5 [4, 5]
 (.node 4 [7]
 .leaf .leaf) .leaf))
def lvF31 (r : Nat) : List Nat := getL lv31 r
noncomputable def bd31 : Code := (Try.f31.body).getD .skip
/- 32: (*placket/arena.Arena[string]).Set -/
def lv32 : Tr (List Nat) := (.node 3 [6]
 (.node 1 [0, 2, 7]
 (.node 0 [0, 1, 2]
 .leaf .leaf) (.node 2 [0, 2, 7, 12]
 .leaf .leaf)) (.node 5 [6]
 (.node 4 []
 .leaf .leaf) .leaf))
def lvF32 (r : Nat) : List Nat := getL lv32 r
noncomputable def bd32 : Code := (Try.f32.body).getD .skip
/- 33: (*placket/arena.Arena[string]).Live -/
def lv33 : Tr (List Nat) := (.node 1 [2]
 (.node 0 [0]
 .leaf .leaf) .leaf)
def lvF33 (r : Nat) : List Nat := getL lv33 r
noncomputable def bd33 : Code := (Try.f33.body).getD .skip
/- 34: placket/arena.New[int] -/
def lv34 : Tr (List Nat) := (.node 2 [2, 3]
 (.node 1 [0, 9]
 (.node 0 [0]
 .leaf .leaf) .leaf) (.node 3 [2, 3]
 .leaf .leaf))
def lvF34 (r : Nat) : List Nat := getL lv34 r
noncomputable def bd34 : Code := (Try.f34.body).getD .skip
/- 35: placket/placketlaw04.Pick -/
def lv35 : Tr (List Nat) := (.node 2 [0, 1]
 (.node 1 [0, 1, 6]
 (.node 0 [0, 1]
 .leaf .leaf) .leaf) (.node 3 [4]
 .leaf .leaf))
def lvF35 (r : Nat) : List Nat := getL lv35 r
noncomputable def bd35 : Code := (Try.f35.body).getD .skip
/- 36: (*placket/arena.Arena[int]).Put -/
def lv36 : Tr (List Nat) := (.node 5 [0, 1, 6, 7, 26]
 (.node 2 [4, 5]
 (.node 1 [0, 1, 14]
 (.node 0 [0, 1]
 .leaf .leaf) .leaf) (.node 4 [0, 1, 6, 7]
 (.node 3 [0, 1, 6]
 .leaf .leaf) .leaf)) (.node 8 [4, 5]
 (.node 7 [6]
 (.node 6 [0, 6, 7]
 .leaf .leaf) .leaf) (.node 10 [4, 5]
 (.node 9 [6]
 .leaf .leaf) .leaf)))
def lvF36 (r : Nat) : List Nat := getL lv36 r
noncomputable def bd36 : Code := (Try.f36.body).getD .skip
/- 37: placket/placketlaw00.Code -/
def lv37 : Tr (List Nat) := (.node 4 [0, 3, 7]
 (.node 2 [2]
 (.node 1 [0, 5]
 (.node 0 [0]
 .leaf .leaf) .leaf) (.node 3 [0, 3]
 .leaf .leaf)) (.node 7 [2]
 (.node 6 [0, 3, 13]
 (.node 5 [0, 3]
 .leaf .leaf) .leaf) (.node 8 [2]
 .leaf .leaf)))
def lvF37 (r : Nat) : List Nat := getL lv37 r
noncomputable def bd37 : Code := (Try.f37.body).getD .skip
/- 38: (*placket/arena.Arena[int]).Drop -/
def lv38 : Tr (List Nat) := (.node 3 [4]
 (.node 1 [0, 5]
 (.node 0 [0, 1]
 .leaf .leaf) (.node 2 [0, 5, 10]
 .leaf .leaf)) (.node 5 []
 (.node 4 [0, 5]
 .leaf .leaf) (.node 6 [4]
 .leaf .leaf)))
def lvF38 (r : Nat) : List Nat := getL lv38 r
noncomputable def bd38 : Code := (Try.f38.body).getD .skip
/- 39: (*placket/arena.Arena[int]).Set -/
def lv39 : Tr (List Nat) := (.node 3 [6]
 (.node 1 [0, 2, 7]
 (.node 0 [0, 1, 2]
 .leaf .leaf) (.node 2 [0, 2, 7, 12]
 .leaf .leaf)) (.node 5 [6]
 (.node 4 []
 .leaf .leaf) .leaf))
def lvF39 (r : Nat) : List Nat := getL lv39 r
noncomputable def bd39 : Code := (Try.f39.body).getD .skip
/- 40: (*placket/arena.Arena[int]).Clone -/
def lv40 : Tr (List Nat) := (.node 2 [3]
 (.node 1 [0, 3]
 (.node 0 [0]
 .leaf .leaf) .leaf) (.node 3 [2]
 .leaf .leaf))
def lvF40 (r : Nat) : List Nat := getL lv40 r
noncomputable def bd40 : Code := (Try.f40.body).getD .skip
/- 41: (*placket/arena.Arena[int]).Live -/
def lv41 : Tr (List Nat) := (.node 1 [2]
 (.node 0 [0]
 .leaf .leaf) .leaf)
def lvF41 (r : Nat) : List Nat := getL lv41 r
noncomputable def bd41 : Code := (Try.f41.body).getD .skip
/- 42: (*placket/arena.Arena[int]).Next -/
def lv42 : Tr (List Nat) := (.node 1 [2]
 (.node 0 [0]
 .leaf .leaf) .leaf)
def lvF42 (r : Nat) : List Nat := getL lv42 r
noncomputable def bd42 : Code := (Try.f42.body).getD .skip
/- 43: (*placket/arena.Arena[int]).Room -/
def lv43 : Tr (List Nat) := (.node 1 [2]
 (.node 0 [0]
 .leaf .leaf) .leaf)
def lvF43 (r : Nat) : List Nat := getL lv43 r
noncomputable def bd43 : Code := (Try.f43.body).getD .skip
/- 44: (*placket/arena.Arena[int]).Get -/
def lv44 : Tr (List Nat) := (.node 3 [4, 5]
 (.node 1 [0, 6]
 (.node 0 [0, 1]
 .leaf .leaf) (.node 2 [0, 6, 12]
 .leaf .leaf)) (.node 5 [4, 5]
 (.node 4 [7]
 .leaf .leaf) .leaf))
def lvF44 (r : Nat) : List Nat := getL lv44 r
noncomputable def bd44 : Code := (Try.f44.body).getD .skip
/- 60: placket/placketlaw03.up -/
def lv60 : Tr (List Nat) := (.node 3 [1, 2, 3]
 (.node 1 [1]
 (.node 0 []
 .leaf .leaf) (.node 2 [1, 2]
 .leaf .leaf)) (.node 5 [1, 3, 4, 5, 6]
 (.node 4 [1, 3, 4]
 .leaf .leaf) (.node 6 [0]
 .leaf .leaf)))
def lvF60 (r : Nat) : List Nat := getL lv60 r
noncomputable def bd60 : Code := (Try.f60.body).getD .skip
/- 61: placket/placketlaw03.Few -/
def lv61 : Tr (List Nat) := (.node 4 [0, 3, 29]
 (.node 2 [0, 3, 11]
 (.node 1 [0, 3]
 (.node 0 [0]
 .leaf .leaf) .leaf) (.node 3 [0, 3]
 .leaf .leaf)) (.node 7 [2]
 (.node 6 [32]
 (.node 5 [2]
 .leaf .leaf) .leaf) (.node 8 [2]
 .leaf .leaf)))
def lvF61 (r : Nat) : List Nat := getL lv61 r
noncomputable def bd61 : Code := (Try.f61.body).getD .skip
/- 62: placket/attr.Find -/
def lv62 : Tr (List Nat) := (.node 2 [0, 4, 6, 11]
 (.node 1 [0, 4, 6]
 (.node 0 [0, 1, 4]
 .leaf .leaf) .leaf) (.node 4 [4, 5]
 (.node 3 [4, 5]
 .leaf .leaf) .leaf))
def lvF62 (r : Nat) : List Nat := getL lv62 r
noncomputable def bd62 : Code := (Try.f62.body).getD .skip
/- 63: placket/attr.May -/
def lv63 : Tr (List Nat) := (.node 4 [0, 5, 6, 7, 29]
 (.node 2 [0, 5, 6, 7, 8]
 (.node 1 [0, 5, 6, 7]
 (.node 0 [0]
 .leaf .leaf) .leaf) (.node 3 [0, 3, 4, 5, 6, 7]
 .leaf .leaf)) (.node 6 [0, 5, 6, 7]
 (.node 5 [2]
 .leaf .leaf) (.node 7 [2]
 .leaf .leaf)))
def lvF63 (r : Nat) : List Nat := getL lv63 r
noncomputable def bd63 : Code := (Try.f63.body).getD .skip
/- 64: placket/placketref01.May -/
def lv64 : Tr (List Nat) := (.node 7 [2]
 (.node 3 [0, 3]
 (.node 1 [0, 3]
 (.node 0 [0]
 .leaf .leaf) (.node 2 [0, 3, 10]
 .leaf .leaf)) (.node 5 [0, 3, 4, 5]
 (.node 4 [0, 3, 4]
 .leaf .leaf) (.node 6 [0, 3, 30]
 .leaf .leaf))) (.node 11 [0, 3, 6, 46]
 (.node 9 [0, 3, 6, 33]
 (.node 8 [0, 3, 6]
 .leaf .leaf) (.node 10 [0, 3, 6]
 .leaf .leaf)) (.node 13 [2]
 (.node 12 [2]
 .leaf .leaf) .leaf)))
def lvF64 (r : Nat) : List Nat := getL lv64 r
noncomputable def bd64 : Code := (Try.f64.body).getD .skip
/- 65: placket/attr.Same -/
def lv65 : Tr (List Nat) := (.node 1 [4]
 (.node 0 [0, 1]
 .leaf .leaf) .leaf)
def lvF65 (r : Nat) : List Nat := getL lv65 r
noncomputable def bd65 : Code := (Try.f65.body).getD .skip
/- 66: placket/placketref01.Same -/
def lv66 : Tr (List Nat) := (.node 4 [0, 1, 5, 14]
 (.node 2 [4]
 (.node 1 [0, 1, 10]
 (.node 0 [0, 1]
 .leaf .leaf) .leaf) (.node 3 [0, 1, 5]
 .leaf .leaf)) (.node 7 [4]
 (.node 6 [0, 1, 5, 25]
 (.node 5 [0, 1, 5]
 .leaf .leaf) .leaf) (.node 8 [4]
 .leaf .leaf)))
def lvF66 (r : Nat) : List Nat := getL lv66 r
noncomputable def bd66 : Code := (Try.f66.body).getD .skip
/- 67: placket/attr.Join -/
def lv67 : Tr (List Nat) := (.node 4 [5, 7, 11, 12, 13]
 (.node 2 [5, 11, 12, 13]
 (.node 1 [1, 5]
 (.node 0 [0, 1]
 .leaf .leaf) .leaf) (.node 3 [5, 11, 12, 13, 14]
 .leaf .leaf)) (.node 7 [5, 11, 12, 13]
 (.node 6 [5, 11, 12, 13]
 (.node 5 [5, 7, 11, 12, 13, 21]
 .leaf .leaf) .leaf) (.node 8 [4]
 .leaf .leaf)))
def lvF67 (r : Nat) : List Nat := getL lv67 r
noncomputable def bd67 : Code := (Try.f67.body).getD .skip
/- 68: placket/placketref01.Join -/
def lv68 : Tr (List Nat) := (.node 10 [1, 5, 7, 8]
 (.node 5 [0, 1, 5, 6, 20]
 (.node 2 [0, 1, 5, 6]
 (.node 1 [0, 1, 5]
 (.node 0 [0, 1]
 .leaf .leaf) .leaf) (.node 4 [0, 1, 5, 6]
 (.node 3 [0, 1, 5, 6, 13]
 .leaf .leaf) .leaf)) (.node 8 [1, 5, 7, 31]
 (.node 7 [1, 5, 7]
 (.node 6 [0, 1, 5, 6]
 .leaf .leaf) .leaf) (.node 9 [1, 5, 7]
 .leaf .leaf))) (.node 15 [1, 5, 7, 60]
 (.node 13 [1, 5, 7, 8, 9]
 (.node 12 [1, 5, 7, 8, 9, 42]
 (.node 11 [1, 5, 7, 8, 9]
 .leaf .leaf) .leaf) (.node 14 [1, 5, 7, 8, 9]
 .leaf .leaf)) (.node 18 [5]
 (.node 17 [5, 70]
 (.node 16 [1, 5, 7]
 .leaf .leaf) .leaf) (.node 19 [4]
 .leaf .leaf))))
def lvF68 (r : Nat) : List Nat := getL lv68 r
noncomputable def bd68 : Code := (Try.f68.body).getD .skip
/- 69: placket/attr.New -/
def lv69 : Tr (List Nat) := (.node 1 [2]
 (.node 0 [0]
 .leaf .leaf) .leaf)
def lvF69 (r : Nat) : List Nat := getL lv69 r
noncomputable def bd69 : Code := (Try.f69.body).getD .skip
/- 70: placket/placketref01.New -/
def lv70 : Tr (List Nat) := (.node 6 [0, 3, 4]
 (.node 3 [0, 3, 4, 9]
 (.node 1 [0, 3]
 (.node 0 [0]
 .leaf .leaf) (.node 2 [0, 3, 4]
 .leaf .leaf)) (.node 5 [0, 3, 4, 16]
 (.node 4 [0, 3, 4]
 .leaf .leaf) .leaf)) (.node 10 [0, 3, 5, 35]
 (.node 8 [0, 3, 5, 27]
 (.node 7 [0, 3, 5]
 .leaf .leaf) (.node 9 [0, 3, 5]
 .leaf .leaf)) (.node 12 [2]
 (.node 11 [0, 3, 5]
 .leaf .leaf) .leaf)))
def lvF70 (r : Nat) : List Nat := getL lv70 r
noncomputable def bd70 : Code := (Try.f70.body).getD .skip
/- 75: placket/name.letter -/
def lv75 : Tr (List Nat) := (.node 1 [2]
 (.node 0 [0]
 .leaf .leaf) .leaf)
def lvF75 (r : Nat) : List Nat := getL lv75 r
noncomputable def bd75 : Code := (Try.f75.body).getD .skip
/- 76: placket/placketref01.letter -/
def lv76 : Tr (List Nat) := (.node 1 [2]
 (.node 0 [0]
 .leaf .leaf) .leaf)
def lvF76 (r : Nat) : List Nat := getL lv76 r
noncomputable def bd76 : Code := (Try.f76.body).getD .skip
/- 77: (*sync/atomic.Int64).Add -/
def lv77 : Tr (List Nat) := (.node 1 [4]
 (.node 0 [0, 1]
 .leaf .leaf) .leaf)
def lvF77 (r : Nat) : List Nat := getL lv77 r
noncomputable def bd77 : Code := (Try.f77.body).getD .skip
/- 78: (*placket/arena.Arena[string]).at -/
def lv78 : Tr (List Nat) := (.node 4 [1, 5, 10, 11, 12, 24]
 (.node 2 [1, 10, 11, 12, 13]
 (.node 1 [1, 10, 11, 12]
 (.node 0 [0, 1]
 .leaf .leaf) .leaf) (.node 3 [1, 5, 6, 10, 11, 12]
 .leaf .leaf)) (.node 6 [1, 10, 11, 12]
 (.node 5 [4]
 .leaf .leaf) (.node 7 [4]
 .leaf .leaf)))
def lvF78 (r : Nat) : List Nat := getL lv78 r
noncomputable def bd78 : Code := (Try.f78.body).getD .skip
/- 79: (*placket/arena.Arena[int]).at -/
def lv79 : Tr (List Nat) := (.node 4 [1, 5, 10, 11, 12, 24]
 (.node 2 [1, 10, 11, 12, 13]
 (.node 1 [1, 10, 11, 12]
 (.node 0 [0, 1]
 .leaf .leaf) .leaf) (.node 3 [1, 5, 6, 10, 11, 12]
 .leaf .leaf)) (.node 6 [1, 10, 11, 12]
 (.node 5 [4]
 .leaf .leaf) (.node 7 [4]
 .leaf .leaf)))
def lvF79 (r : Nat) : List Nat := getL lv79 r
noncomputable def bd79 : Code := (Try.f79.body).getD .skip
/- 80: (*sync/atomic.Int64).Store -/
def lv80 : Tr (List Nat) := (.node 0 []
 .leaf .leaf)
def lvF80 (r : Nat) : List Nat := getL lv80 r
noncomputable def bd80 : Code := (Try.f80.body).getD .skip
/- 81: (*sync/atomic.Int64).Load -/
def lv81 : Tr (List Nat) := (.node 1 [2]
 (.node 0 [0]
 .leaf .leaf) .leaf)
def lvF81 (r : Nat) : List Nat := getL lv81 r
noncomputable def bd81 : Code := (Try.f81.body).getD .skip
/- 90: placket/attr.at -/
def lv90 : Tr (List Nat) := (.node 1 [4]
 (.node 0 [0, 3]
 .leaf .leaf) .leaf)
def lvF90 (r : Nat) : List Nat := getL lv90 r
noncomputable def bd90 : Code := (Try.f90.body).getD .skip
/- 91: slices.Equal[[]placket/api.Attr,placket/api.Attr] -/
def lv91 : Tr (List Nat) := (.node 5 [0, 1, 5, 12, 13]
 (.node 2 [4]
 (.node 1 [0, 1, 10]
 (.node 0 [0, 1]
 .leaf .leaf) .leaf) (.node 4 [0, 1, 12, 13, 14]
 (.node 3 [0, 1, 12, 13]
 .leaf .leaf) .leaf)) (.node 8 [0, 1, 12, 13]
 (.node 7 [4]
 (.node 6 [0, 1, 12, 13, 24]
 .leaf .leaf) .leaf) (.node 9 [4]
 .leaf .leaf)))
def lvF91 (r : Nat) : List Nat := getL lv91 r
noncomputable def bd91 : Code := (Try.f91.body).getD .skip
/- 92: placket/attr.some -/
def lv92 : Tr (List Nat) := (.node 1 [4]
 (.node 0 [0, 3]
 .leaf .leaf) .leaf)
def lvF92 (r : Nat) : List Nat := getL lv92 r
noncomputable def bd92 : Code := (Try.f92.body).getD .skip
/- 103: slices.IndexFunc[[]placket/api.Attr,placket/api.Attr] -/
def lv103 : Tr (List Nat) := (.node 4 [0, 1, 5, 7, 8, 16]
 (.node 2 [0, 1, 7, 8, 9]
 (.node 1 [0, 1, 7, 8]
 (.node 0 [0, 1]
 .leaf .leaf) .leaf) (.node 3 [0, 1, 5, 7, 8]
 .leaf .leaf)) (.node 6 [0, 1, 7, 8]
 (.node 5 [4]
 .leaf .leaf) (.node 7 [4]
 .leaf .leaf)))
def lvF103 (r : Nat) : List Nat := getL lv103 r
noncomputable def bd103 : Code := (Try.f103.body).getD .skip
/- 104: placket/attr.at$1 -/
def lv104 : Tr (List Nat) := (.node 1 [3]
 (.node 0 [1, 2]
 .leaf .leaf) .leaf)
def lvF104 (r : Nat) : List Nat := getL lv104 r
noncomputable def bd104 : Code := (Try.f104.body).getD .skip
/- 105: slices.DeleteFunc[[]placket/api.Attr,placket/api.Attr] -/
def lv105 : Tr (List Nat) := (.node 6 [0, 1, 5, 6]
 (.node 3 [4]
 (.node 1 [0, 1, 5]
 (.node 0 [0, 1]
 .leaf .leaf) (.node 2 [0, 1, 5, 12]
 .leaf .leaf)) (.node 5 [0, 1, 5, 6, 19]
 (.node 4 [0, 1, 5, 6]
 .leaf .leaf) .leaf)) (.node 10 [0, 1, 5, 6]
 (.node 8 [0, 1, 5, 6, 7, 29]
 (.node 7 [0, 1, 5, 6, 7]
 .leaf .leaf) (.node 9 [0, 1, 5, 6]
 .leaf .leaf)) (.node 12 [4]
 (.node 11 [0, 5]
 .leaf .leaf) .leaf)))
def lvF105 (r : Nat) : List Nat := getL lv105 r
noncomputable def bd105 : Code := (Try.f105.body).getD .skip
/- 107: placket/attr.some$1 -/
def lv107 : Tr (List Nat) := (.node 1 [3]
 (.node 0 [1, 2]
 .leaf .leaf) .leaf)
def lvF107 (r : Nat) : List Nat := getL lv107 r
noncomputable def bd107 : Code := (Try.f107.body).getD .skip
noncomputable def fnT : Tr Func := (.node 44 Try.f44
 (.node 31 Try.f31
 (.node 18 Try.f18
 (.node 13 Try.f13
 (.node 7 Try.f7
 (.node 6 Try.f6
 .leaf .leaf) (.node 12 Try.f12
 .leaf .leaf)) (.node 17 Try.f17
 (.node 16 Try.f16
 .leaf .leaf) .leaf)) (.node 28 Try.f28
 (.node 27 Try.f27
 (.node 19 Try.f19
 .leaf .leaf) .leaf) (.node 30 Try.f30
 (.node 29 Try.f29
 .leaf .leaf) .leaf))) (.node 38 Try.f38
 (.node 35 Try.f35
 (.node 33 Try.f33
 (.node 32 Try.f32
 .leaf .leaf) (.node 34 Try.f34
 .leaf .leaf)) (.node 37 Try.f37
 (.node 36 Try.f36
 .leaf .leaf) .leaf)) (.node 41 Try.f41
 (.node 40 Try.f40
 (.node 39 Try.f39
 .leaf .leaf) .leaf) (.node 43 Try.f43
 (.node 42 Try.f42
 .leaf .leaf) .leaf)))) (.node 76 Try.f76
 (.node 66 Try.f66
 (.node 63 Try.f63
 (.node 61 Try.f61
 (.node 60 Try.f60
 .leaf .leaf) (.node 62 Try.f62
 .leaf .leaf)) (.node 65 Try.f65
 (.node 64 Try.f64
 .leaf .leaf) .leaf)) (.node 69 Try.f69
 (.node 68 Try.f68
 (.node 67 Try.f67
 .leaf .leaf) .leaf) (.node 75 Try.f75
 (.node 70 Try.f70
 .leaf .leaf) .leaf))) (.node 91 Try.f91
 (.node 80 Try.f80
 (.node 78 Try.f78
 (.node 77 Try.f77
 .leaf .leaf) (.node 79 Try.f79
 .leaf .leaf)) (.node 90 Try.f90
 (.node 81 Try.f81
 .leaf .leaf) .leaf)) (.node 104 Try.f104
 (.node 103 Try.f103
 (.node 92 Try.f92
 .leaf .leaf) .leaf) (.node 107 Try.f107
 (.node 105 Try.f105
 .leaf .leaf) .leaf)))))
def liveT : Tr (Tr (List Nat)) := (.node 44 lv44
 (.node 31 lv31
 (.node 18 lv18
 (.node 13 lv13
 (.node 7 lv7
 (.node 6 lv6
 .leaf .leaf) (.node 12 lv12
 .leaf .leaf)) (.node 17 lv17
 (.node 16 lv16
 .leaf .leaf) .leaf)) (.node 28 lv28
 (.node 27 lv27
 (.node 19 lv19
 .leaf .leaf) .leaf) (.node 30 lv30
 (.node 29 lv29
 .leaf .leaf) .leaf))) (.node 38 lv38
 (.node 35 lv35
 (.node 33 lv33
 (.node 32 lv32
 .leaf .leaf) (.node 34 lv34
 .leaf .leaf)) (.node 37 lv37
 (.node 36 lv36
 .leaf .leaf) .leaf)) (.node 41 lv41
 (.node 40 lv40
 (.node 39 lv39
 .leaf .leaf) .leaf) (.node 43 lv43
 (.node 42 lv42
 .leaf .leaf) .leaf)))) (.node 76 lv76
 (.node 66 lv66
 (.node 63 lv63
 (.node 61 lv61
 (.node 60 lv60
 .leaf .leaf) (.node 62 lv62
 .leaf .leaf)) (.node 65 lv65
 (.node 64 lv64
 .leaf .leaf) .leaf)) (.node 69 lv69
 (.node 68 lv68
 (.node 67 lv67
 .leaf .leaf) .leaf) (.node 75 lv75
 (.node 70 lv70
 .leaf .leaf) .leaf))) (.node 91 lv91
 (.node 80 lv80
 (.node 78 lv78
 (.node 77 lv77
 .leaf .leaf) (.node 79 lv79
 .leaf .leaf)) (.node 90 lv90
 (.node 81 lv81
 .leaf .leaf) .leaf)) (.node 104 lv104
 (.node 103 lv103
 (.node 92 lv92
 .leaf .leaf) .leaf) (.node 107 lv107
 (.node 105 lv105
 .leaf .leaf) .leaf)))))
def consT : Tr (List Nat) := (.node 105 [1]
 .leaf .leaf)
def pureT : Tr Unit := (.node 44 ()
 (.node 41 ()
 (.node 33 ()
 (.node 31 ()
 .leaf .leaf) .leaf) (.node 43 ()
 (.node 42 ()
 .leaf .leaf) .leaf)) (.node 81 ()
 (.node 79 ()
 (.node 78 ()
 .leaf .leaf) .leaf) (.node 99 ()
 .leaf .leaf)))
def extT : Tr (List AV → Seg → Prog) := (.node 99 xLoadInt64
 (.node 98 xStoreInt64
 (.node 97 xAddInt64
 .leaf .leaf) .leaf) (.node 106 (yClone 3)
 .leaf .leaf))
def liveOf (f : Nat) : Nat → List Nat := match liveT.get f with
  | some t => getL t
  | none => fun _ => []
noncomputable def fnF (f : Nat) : Option Func := fnT.get f
def tyF (t : Nat) : Option Ty := tyT.get t
def consF (f : Nat) : List Nat := getL consT f
def pureF (f : Nat) : Bool := (pureT.get f).isSome
def extF (f : Nat) : Option (List AV → Seg → Prog) := extT.get f
noncomputable def envV (A : Ar) : Env := { A := A, fn := fnF, ty := tyF, live := liveOf, cons := consF, pure := pureF, ext := extF }
end Go.Va
