/- The types of the program of this seat, as the generator asks for them. Printed by a program of mine off the translation. -/
import Derived.Test.YtgipackjnncabaaVc
import Derived.Test.YtgipackjnncabaaRows
namespace Go.Proofs.Ytgipackjnncabaa
open Go.Vc

def memN : List Nat → Nat → Bool
  | [], _ => false
  | a :: l, n => match Nat.beq a n with
    | true => true
    | false => memN l n
def getN {α : Type} : List (Nat × α) → Nat → Option α
  | [], _ => none
  | (a, v) :: l, n => match Nat.beq a n with
    | true => some v
    | false => getN l n
def getNN : List (Nat × List Nat) → Nat → Nat → Option Nat
  | [], _, _ => none
  | (a, v) :: l, n, f => match Nat.beq a n with
    | true => v[f]?
    | false => getNN l n f
def kinds : List (Nat × IntKind) := [(2, .i64), (3, .i64), (5, .u8), (21, .i32), (23, .u64), (26, .i64), (35, .u64), (42, .u32), (86, .u16)]
def singles : List Nat := [2, 3, 4, 5, 9, 21, 22, 23, 26, 35, 37, 42, 50, 57, 58, 60, 63, 66, 86, 87, 103, 122, 131, 132, 139, 144, 146, 164, 168]
def aggs : List (Nat × Nat) := [(19, 1), (69, 7), (70, 7), (71, 10), (72, 10), (73, 15), (74, 15), (80, 5), (81, 5), (99, 2), (104, 3), (105, 3), (112, 7), (127, 8), (128, 8), (135, 6), (136, 6), (142, 5), (143, 5), (147, 4), (148, 4), (150, 4), (151, 4), (161, 2), (162, 2), (166, 3), (170, 5), (171, 5), (180, 5), (181, 5), (183, 2), (184, 2), (186, 2), (187, 2), (189, 6), (190, 6), (195, 2), (196, 2), (205, 4), (206, 4)]
def fieldsL : List (Nat × List Nat) := [(19, [0]), (69, [0, 1, 2, 3, 4, 5, 6]), (70, [0, 1, 2, 3, 4, 5, 6]), (71, [0, 1, 2, 3]), (72, [0, 1, 2, 3]), (73, [0, 10, 11, 12, 13, 14]), (74, [0, 10, 11, 12, 13, 14]), (80, [0, 1, 2, 3, 4]), (81, [0, 1, 2, 3, 4]), (104, [0, 1, 2]), (105, [0, 1, 2]), (112, [0, 1, 2, 3, 4, 5, 6]), (127, [0, 1, 2, 3, 4, 5, 6, 7]), (128, [0, 1, 2, 3, 4, 5, 6, 7]), (135, [0, 1, 2, 3, 4, 5]), (136, [0, 1, 2, 3, 4, 5]), (142, [0, 1, 2, 3, 4]), (143, [0, 1, 2, 3, 4]), (147, [0, 1, 2, 3]), (148, [0, 1, 2, 3]), (150, [0, 1, 2, 3]), (151, [0, 1, 2, 3]), (161, [0, 1]), (162, [0, 1]), (170, [0, 1, 2, 3, 4]), (171, [0, 1, 2, 3, 4]), (180, [0, 1, 2, 3, 4]), (181, [0, 1, 2, 3, 4]), (183, [0, 1]), (184, [0, 1]), (186, [0, 1]), (187, [0, 1]), (189, [0, 1, 2, 3, 4, 5]), (190, [0, 1, 2, 3, 4, 5]), (195, [0, 1]), (196, [0, 1]), (205, [0, 1, 2, 3]), (206, [0, 1, 2, 3])]
def slices : List (Nat × Nat) := [(22, 1), (37, 1), (50, 1), (57, 15), (103, 3), (131, 10), (144, 4), (164, 2), (168, 5)]
def arrs : List (Nat × (Nat × Nat)) := [(99, (2, 1)), (166, (3, 1))]
def zeros : List (Nat × Value) := [(2, .int .i64 0), (3, .int .i64 0), (4, .bool false), (5, .int .u8 0), (19, .agg #[.pointer none]), (21, .int .i32 0), (22, .slice none 0 0), (23, .int .u64 0), (26, .int .i64 0), (35, .int .u64 0), (37, .slice none 0 0), (42, .int .u32 0), (50, .slice none 0 0), (57, .slice none 0 0), (58, .pointer none), (60, .pointer none), (63, .pointer none), (66, .pointer none), (69, .agg #[.int .i64 0, .int .u32 0, .int .i64 0, .int .i64 0, .int .i64 0, .int .u32 0, .slice none 0 0]), (70, .agg #[.int .i64 0, .int .u32 0, .int .i64 0, .int .i64 0, .int .i64 0, .int .u32 0, .slice none 0 0]), (71, .agg #[.bool false, .bool false, .slice none 0 0, .int .i64 0, .int .u32 0, .int .i64 0, .int .i64 0, .int .i64 0, .int .u32 0, .slice none 0 0]), (72, .agg #[.bool false, .bool false, .slice none 0 0, .int .i64 0, .int .u32 0, .int .i64 0, .int .i64 0, .int .i64 0, .int .u32 0, .slice none 0 0]), (73, .agg #[.bool false, .bool false, .slice none 0 0, .int .i64 0, .int .u32 0, .int .i64 0, .int .i64 0, .int .i64 0, .int .u32 0, .slice none 0 0, .int .i64 0, .int .u32 0, .bool false, .int .u8 0, .int .u32 0]), (74, .agg #[.bool false, .bool false, .slice none 0 0, .int .i64 0, .int .u32 0, .int .i64 0, .int .i64 0, .int .i64 0, .int .u32 0, .slice none 0 0, .int .i64 0, .int .u32 0, .bool false, .int .u8 0, .int .u32 0]), (80, .agg #[.slice none 0 0, .bool false, .int .i64 0, .int .u32 0, .int .i64 0]), (81, .agg #[.slice none 0 0, .bool false, .int .i64 0, .int .u32 0, .int .i64 0]), (86, .int .u16 0), (87, .pointer none), (99, .agg #[.int .u32 0, .int .u32 0]), (103, .slice none 0 0), (104, .agg #[.int .i64 0, .int .i64 0, .int .u32 0]), (105, .agg #[.int .i64 0, .int .i64 0, .int .u32 0]), (112, .agg #[.int .i64 0, .int .u32 0, .int .i64 0, .int .i64 0, .int .i64 0, .int .u32 0, .slice none 0 0]), (122, .pointer none), (127, .agg #[.pointer none, .int .i64 0, .int .i64 0, .int .i64 0, .bool false, .int .u32 0, .slice none 0 0, .bool false]), (128, .agg #[.pointer none, .int .i64 0, .int .i64 0, .int .i64 0, .bool false, .int .u32 0, .slice none 0 0, .bool false]), (131, .slice none 0 0), (132, .pointer none), (135, .agg #[.int .u32 0, .slice none 0 0, .int .u32 0, .bool false, .bool false, .int .i64 0]), (136, .agg #[.int .u32 0, .slice none 0 0, .int .u32 0, .bool false, .bool false, .int .i64 0]), (139, .pointer none), (142, .agg #[.pointer none, .int .i64 0, .bool false, .slice none 0 0, .int .u32 0]), (143, .agg #[.pointer none, .int .i64 0, .bool false, .slice none 0 0, .int .u32 0]), (144, .slice none 0 0), (146, .pointer none), (147, .agg #[.pointer none, .pointer none, .pointer none, .pointer none]), (148, .agg #[.pointer none, .pointer none, .pointer none, .pointer none]), (150, .agg #[.int .i64 0, .slice none 0 0, .int .i64 0, .int .u32 0]), (151, .agg #[.int .i64 0, .slice none 0 0, .int .i64 0, .int .u32 0]), (161, .agg #[.pointer none, .int .i64 0]), (162, .agg #[.pointer none, .int .i64 0]), (164, .slice none 0 0), (166, .agg #[.int .u32 0, .int .u32 0, .int .u32 0]), (168, .slice none 0 0), (170, .agg #[.int .i64 0, .int .i64 0, .int .i64 0, .int .u32 0, .slice none 0 0]), (171, .agg #[.int .i64 0, .int .i64 0, .int .i64 0, .int .u32 0, .slice none 0 0]), (180, .agg #[.slice none 0 0, .bool false, .int .i64 0, .int .u32 0, .int .i64 0]), (181, .agg #[.slice none 0 0, .bool false, .int .i64 0, .int .u32 0, .int .i64 0]), (183, .agg #[.pointer none, .int .i64 0]), (184, .agg #[.pointer none, .int .i64 0]), (186, .agg #[.pointer none, .int .i64 0]), (187, .agg #[.pointer none, .int .i64 0]), (189, .agg #[.int .u32 0, .slice none 0 0, .int .u32 0, .bool false, .bool false, .int .i64 0]), (190, .agg #[.int .u32 0, .slice none 0 0, .int .u32 0, .bool false, .bool false, .int .i64 0]), (195, .agg #[.pointer none, .int .u32 0]), (196, .agg #[.pointer none, .int .u32 0]), (205, .agg #[.int .u32 0, .slice none 0 0, .int .i64 0, .bool false]), (206, .agg #[.int .u32 0, .slice none 0 0, .int .i64 0, .bool false])]
def bools : List Nat := [4]
def ptrs : List Nat := [58, 60, 63, 66, 87, 122, 132, 139, 146]
def strs : List Nat := [9]
def bytesL : List Nat := [22]
def lay : Lay :=
  { kind := getN kinds, single := memN singles, agg := getN aggs, field := getNN fieldsL, slice := getN slices, arr := getN arrs, zero := getN zeros,
    isBool := memN bools, isPtr := memN ptrs, isStr := memN strs, isBytes := memN bytesL,
    call := fun f => Nat.blt 2 f && Nat.blt f 186 }

end Go.Proofs.Ytgipackjnncabaa
