/- MADE BY types.py: sizes of the types of this seat. No condition. -/
import Derived.Test.YtamghkoanamapaaFf
import Derived.Test.YtamghkoanamapaaChecked
import GoSem.Claims
namespace Go.AM.Try
open Go.Proofs

theorem sz2 : sizeA Try.prog 2 = some 1 := by kernel_rfl
theorem agg2 : isAggA Try.prog 2 = some false := by kernel_rfl
theorem zero2 : zeroA Try.prog 2 = some (.int .i64 0) := by kernel_rfl
theorem elem2 : elemA Try.prog 2 = some (1, 8, .int .i64 0) := by kernel_rfl
theorem sz3 : sizeA Try.prog 3 = some 1 := by kernel_rfl
theorem agg3 : isAggA Try.prog 3 = some false := by kernel_rfl
theorem zero3 : zeroA Try.prog 3 = some (.int .i64 0) := by kernel_rfl
theorem elem3 : elemA Try.prog 3 = some (1, 8, .int .i64 0) := by kernel_rfl
theorem sz4 : sizeA Try.prog 4 = some 1 := by kernel_rfl
theorem agg4 : isAggA Try.prog 4 = some false := by kernel_rfl
theorem zero4 : zeroA Try.prog 4 = some (.bool false) := by kernel_rfl
theorem elem4 : elemA Try.prog 4 = some (1, 1, .bool false) := by kernel_rfl
theorem sz5 : sizeA Try.prog 5 = some 1 := by kernel_rfl
theorem agg5 : isAggA Try.prog 5 = some false := by kernel_rfl
theorem zero5 : zeroA Try.prog 5 = some (.int .u8 0) := by kernel_rfl
theorem elem5 : elemA Try.prog 5 = some (1, 1, .int .u8 0) := by kernel_rfl
theorem sz6 : sizeA Try.prog 6 = some 1 := by kernel_rfl
theorem agg6 : isAggA Try.prog 6 = some false := by kernel_rfl
theorem zero6 : zeroA Try.prog 6 = some (.int .u8 0) := by kernel_rfl
theorem elem6 : elemA Try.prog 6 = some (1, 1, .int .u8 0) := by kernel_rfl
theorem sz7 : sizeA Try.prog 7 = some 4 := by kernel_rfl
theorem agg7 : isAggA Try.prog 7 = some true := by kernel_rfl
theorem zero7 : zeroA Try.prog 7 = some (.agg #[.int .i64 0, .int .i64 0, .bool false, .int .u8 0]) := by kernel_rfl
theorem elem7 : elemA Try.prog 7 = some (4, 24, .agg #[.int .i64 0, .int .i64 0, .bool false, .int .u8 0]) := by kernel_rfl
theorem sz8 : sizeA Try.prog 8 = some 4 := by kernel_rfl
theorem agg8 : isAggA Try.prog 8 = some true := by kernel_rfl
theorem zero8 : zeroA Try.prog 8 = some (.agg #[.int .i64 0, .int .i64 0, .bool false, .int .u8 0]) := by kernel_rfl
theorem elem8 : elemA Try.prog 8 = some (4, 24, .agg #[.int .i64 0, .int .i64 0, .bool false, .int .u8 0]) := by kernel_rfl
theorem sz9 : sizeA Try.prog 9 = some 1 := by kernel_rfl
theorem agg9 : isAggA Try.prog 9 = some false := by kernel_rfl
theorem zero9 : zeroA Try.prog 9 = some (.string ByteArray.empty) := by kernel_rfl
theorem elem9 : elemA Try.prog 9 = some (1, 16, .string ByteArray.empty) := by kernel_rfl
theorem sz10 : sizeA Try.prog 10 = some 1 := by kernel_rfl
theorem agg10 : isAggA Try.prog 10 = some false := by kernel_rfl
theorem zero10 : zeroA Try.prog 10 = some (.string ByteArray.empty) := by kernel_rfl
theorem elem10 : elemA Try.prog 10 = some (1, 16, .string ByteArray.empty) := by kernel_rfl
theorem sz11 : sizeA Try.prog 11 = some 1 := by kernel_rfl
theorem agg11 : isAggA Try.prog 11 = some false := by kernel_rfl
theorem zero11 : zeroA Try.prog 11 = some (.string ByteArray.empty) := by kernel_rfl
theorem elem11 : elemA Try.prog 11 = some (1, 16, .string ByteArray.empty) := by kernel_rfl
theorem sz12 : sizeA Try.prog 12 = some 1 := by kernel_rfl
theorem agg12 : isAggA Try.prog 12 = some false := by kernel_rfl
theorem zero12 : zeroA Try.prog 12 = some (.int .u64 0) := by kernel_rfl
theorem elem12 : elemA Try.prog 12 = some (1, 8, .int .u64 0) := by kernel_rfl
theorem sz13 : sizeA Try.prog 13 = some 2 := by kernel_rfl
theorem agg13 : isAggA Try.prog 13 = some true := by kernel_rfl
theorem zero13 : zeroA Try.prog 13 = some (.agg #[.string ByteArray.empty, .int .u64 0]) := by kernel_rfl
theorem elem13 : elemA Try.prog 13 = some (2, 24, .agg #[.string ByteArray.empty, .int .u64 0]) := by kernel_rfl
theorem sz14 : sizeA Try.prog 14 = some 2 := by kernel_rfl
theorem agg14 : isAggA Try.prog 14 = some true := by kernel_rfl
theorem zero14 : zeroA Try.prog 14 = some (.agg #[.string ByteArray.empty, .int .u64 0]) := by kernel_rfl
theorem elem14 : elemA Try.prog 14 = some (2, 24, .agg #[.string ByteArray.empty, .int .u64 0]) := by kernel_rfl
theorem sz15 : sizeA Try.prog 15 = some 1 := by kernel_rfl
theorem agg15 : isAggA Try.prog 15 = some false := by kernel_rfl
theorem zero15 : zeroA Try.prog 15 = some (.pointer none) := by kernel_rfl
theorem elem15 : elemA Try.prog 15 = some (1, 8, .pointer none) := by kernel_rfl
theorem sz16 : sizeA Try.prog 16 = some 1 := by kernel_rfl
theorem agg16 : isAggA Try.prog 16 = some false := by kernel_rfl
theorem zero16 : zeroA Try.prog 16 = some (.pointer none) := by kernel_rfl
theorem elem16 : elemA Try.prog 16 = some (1, 8, .pointer none) := by kernel_rfl
theorem sz17 : sizeA Try.prog 17 = some 1 := by kernel_rfl
theorem agg17 : isAggA Try.prog 17 = some false := by kernel_rfl
theorem zero17 : zeroA Try.prog 17 = some (.pointer none) := by kernel_rfl
theorem elem17 : elemA Try.prog 17 = some (1, 8, .pointer none) := by kernel_rfl
theorem sz18 : sizeA Try.prog 18 = some 1 := by kernel_rfl
theorem agg18 : isAggA Try.prog 18 = some true := by kernel_rfl
theorem zero18 : zeroA Try.prog 18 = some (.agg #[.pointer none]) := by kernel_rfl
theorem elem18 : elemA Try.prog 18 = some (1, 8, .agg #[.pointer none]) := by kernel_rfl
theorem sz19 : sizeA Try.prog 19 = some 1 := by kernel_rfl
theorem agg19 : isAggA Try.prog 19 = some true := by kernel_rfl
theorem zero19 : zeroA Try.prog 19 = some (.agg #[.pointer none]) := by kernel_rfl
theorem elem19 : elemA Try.prog 19 = some (1, 8, .agg #[.pointer none]) := by kernel_rfl
theorem sz21 : sizeA Try.prog 21 = some 1 := by kernel_rfl
theorem agg21 : isAggA Try.prog 21 = some false := by kernel_rfl
theorem zero21 : zeroA Try.prog 21 = some (.int .i32 0) := by kernel_rfl
theorem elem21 : elemA Try.prog 21 = some (1, 4, .int .i32 0) := by kernel_rfl
theorem sz22 : sizeA Try.prog 22 = some 1 := by kernel_rfl
theorem agg22 : isAggA Try.prog 22 = some false := by kernel_rfl
theorem zero22 : zeroA Try.prog 22 = some (.slice none 0 0) := by kernel_rfl
theorem elem22 : elemA Try.prog 22 = some (1, 24, .slice none 0 0) := by kernel_rfl
theorem sz23 : sizeA Try.prog 23 = some 1 := by kernel_rfl
theorem agg23 : isAggA Try.prog 23 = some false := by kernel_rfl
theorem zero23 : zeroA Try.prog 23 = some (.slice none 0 0) := by kernel_rfl
theorem elem23 : elemA Try.prog 23 = some (1, 24, .slice none 0 0) := by kernel_rfl
theorem sz26 : sizeA Try.prog 26 = some 1 := by kernel_rfl
theorem agg26 : isAggA Try.prog 26 = some false := by kernel_rfl
theorem zero26 : zeroA Try.prog 26 = some (.slice none 0 0) := by kernel_rfl
theorem elem26 : elemA Try.prog 26 = some (1, 24, .slice none 0 0) := by kernel_rfl
theorem sz30 : sizeA Try.prog 30 = some 1 := by kernel_rfl
theorem agg30 : isAggA Try.prog 30 = some false := by kernel_rfl
theorem zero30 : zeroA Try.prog 30 = some (.int .u64 0) := by kernel_rfl
theorem elem30 : elemA Try.prog 30 = some (1, 8, .int .u64 0) := by kernel_rfl
theorem sz36 : sizeA Try.prog 36 = some 2 := by kernel_rfl
theorem agg36 : isAggA Try.prog 36 = some true := by kernel_rfl
theorem zero36 : zeroA Try.prog 36 = some (.agg #[.int .i64 0, .int .i64 0]) := by kernel_rfl
theorem elem36 : elemA Try.prog 36 = some (2, 16, .agg #[.int .i64 0, .int .i64 0]) := by kernel_rfl
theorem sz37 : sizeA Try.prog 37 = some 2 := by kernel_rfl
theorem agg37 : isAggA Try.prog 37 = some true := by kernel_rfl
theorem zero37 : zeroA Try.prog 37 = some (.agg #[.int .i64 0, .int .i64 0]) := by kernel_rfl
theorem elem37 : elemA Try.prog 37 = some (2, 16, .agg #[.int .i64 0, .int .i64 0]) := by kernel_rfl
theorem sz39 : sizeA Try.prog 39 = some 1 := by kernel_rfl
theorem agg39 : isAggA Try.prog 39 = some false := by kernel_rfl
theorem zero39 : zeroA Try.prog 39 = some (.slice none 0 0) := by kernel_rfl
theorem elem39 : elemA Try.prog 39 = some (1, 24, .slice none 0 0) := by kernel_rfl
theorem sz40 : sizeA Try.prog 40 = some 1 := by kernel_rfl
theorem agg40 : isAggA Try.prog 40 = some false := by kernel_rfl
theorem zero40 : zeroA Try.prog 40 = some (.slice none 0 0) := by kernel_rfl
theorem elem40 : elemA Try.prog 40 = some (1, 24, .slice none 0 0) := by kernel_rfl
theorem sz41 : sizeA Try.prog 41 = some 2 := by kernel_rfl
theorem agg41 : isAggA Try.prog 41 = some true := by kernel_rfl
theorem zero41 : zeroA Try.prog 41 = some (.agg #[.slice none 0 0, .slice none 0 0]) := by kernel_rfl
theorem elem41 : elemA Try.prog 41 = some (2, 48, .agg #[.slice none 0 0, .slice none 0 0]) := by kernel_rfl
theorem sz42 : sizeA Try.prog 42 = some 2 := by kernel_rfl
theorem agg42 : isAggA Try.prog 42 = some true := by kernel_rfl
theorem zero42 : zeroA Try.prog 42 = some (.agg #[.slice none 0 0, .slice none 0 0]) := by kernel_rfl
theorem elem42 : elemA Try.prog 42 = some (2, 48, .agg #[.slice none 0 0, .slice none 0 0]) := by kernel_rfl
theorem sz71 : sizeA Try.prog 71 = some 1 := by kernel_rfl
theorem agg71 : isAggA Try.prog 71 = some false := by kernel_rfl
theorem zero71 : zeroA Try.prog 71 = some (.pointer none) := by kernel_rfl
theorem elem71 : elemA Try.prog 71 = some (1, 8, .pointer none) := by kernel_rfl
theorem sz73 : sizeA Try.prog 73 = some 3 := by kernel_rfl
theorem agg73 : isAggA Try.prog 73 = some true := by kernel_rfl
theorem zero73 : zeroA Try.prog 73 = some (.agg #[.int .i64 0, .int .i64 0, .int .i64 0]) := by kernel_rfl
theorem elem73 : elemA Try.prog 73 = some (3, 24, .agg #[.int .i64 0, .int .i64 0, .int .i64 0]) := by kernel_rfl
theorem sz74 : sizeA Try.prog 74 = some 3 := by kernel_rfl
theorem agg74 : isAggA Try.prog 74 = some true := by kernel_rfl
theorem zero74 : zeroA Try.prog 74 = some (.agg #[.int .i64 0, .int .i64 0, .int .i64 0]) := by kernel_rfl
theorem elem74 : elemA Try.prog 74 = some (3, 24, .agg #[.int .i64 0, .int .i64 0, .int .i64 0]) := by kernel_rfl
theorem sz75 : sizeA Try.prog 75 = some 12 := by kernel_rfl
theorem agg75 : isAggA Try.prog 75 = some true := by kernel_rfl
theorem zero75 : zeroA Try.prog 75 = some (.agg #[.string ByteArray.empty, .int .i64 0, .int .i64 0, .int .i64 0, .int .i64 0, .int .i64 0, .int .i64 0, .int .i64 0, .int .i64 0, .int .i64 0, .int .i64 0, .int .i64 0]) := by kernel_rfl
theorem elem75 : elemA Try.prog 75 = some (12, 104, .agg #[.string ByteArray.empty, .int .i64 0, .int .i64 0, .int .i64 0, .int .i64 0, .int .i64 0, .int .i64 0, .int .i64 0, .int .i64 0, .int .i64 0, .int .i64 0, .int .i64 0]) := by kernel_rfl
theorem sz76 : sizeA Try.prog 76 = some 12 := by kernel_rfl
theorem agg76 : isAggA Try.prog 76 = some true := by kernel_rfl
theorem zero76 : zeroA Try.prog 76 = some (.agg #[.string ByteArray.empty, .int .i64 0, .int .i64 0, .int .i64 0, .int .i64 0, .int .i64 0, .int .i64 0, .int .i64 0, .int .i64 0, .int .i64 0, .int .i64 0, .int .i64 0]) := by kernel_rfl
theorem elem76 : elemA Try.prog 76 = some (12, 104, .agg #[.string ByteArray.empty, .int .i64 0, .int .i64 0, .int .i64 0, .int .i64 0, .int .i64 0, .int .i64 0, .int .i64 0, .int .i64 0, .int .i64 0, .int .i64 0, .int .i64 0]) := by kernel_rfl
theorem sz86 : sizeA Try.prog 86 = some 1 := by kernel_rfl
theorem agg86 : isAggA Try.prog 86 = some false := by kernel_rfl
theorem zero86 : zeroA Try.prog 86 = some (.int .i64 0) := by kernel_rfl
theorem elem86 : elemA Try.prog 86 = some (1, 8, .int .i64 0) := by kernel_rfl
theorem sz95 : sizeA Try.prog 95 = some 5 := by kernel_rfl
theorem agg95 : isAggA Try.prog 95 = some true := by kernel_rfl
theorem zero95 : zeroA Try.prog 95 = some (.agg #[.int .i64 0, .int .i64 0, .int .i64 0, .int .i64 0, .int .i64 0]) := by kernel_rfl
theorem elem95 : elemA Try.prog 95 = some (5, 40, .agg #[.int .i64 0, .int .i64 0, .int .i64 0, .int .i64 0, .int .i64 0]) := by kernel_rfl
theorem sz96 : sizeA Try.prog 96 = some 5 := by kernel_rfl
theorem agg96 : isAggA Try.prog 96 = some true := by kernel_rfl
theorem zero96 : zeroA Try.prog 96 = some (.agg #[.int .i64 0, .int .i64 0, .int .i64 0, .int .i64 0, .int .i64 0]) := by kernel_rfl
theorem elem96 : elemA Try.prog 96 = some (5, 40, .agg #[.int .i64 0, .int .i64 0, .int .i64 0, .int .i64 0, .int .i64 0]) := by kernel_rfl
theorem sz97 : sizeA Try.prog 97 = some 2 := by kernel_rfl
theorem agg97 : isAggA Try.prog 97 = some true := by kernel_rfl
theorem zero97 : zeroA Try.prog 97 = some (.agg #[.slice none 0 0, .int .i64 0]) := by kernel_rfl
theorem elem97 : elemA Try.prog 97 = some (2, 32, .agg #[.slice none 0 0, .int .i64 0]) := by kernel_rfl
theorem sz98 : sizeA Try.prog 98 = some 2 := by kernel_rfl
theorem agg98 : isAggA Try.prog 98 = some true := by kernel_rfl
theorem zero98 : zeroA Try.prog 98 = some (.agg #[.slice none 0 0, .int .i64 0]) := by kernel_rfl
theorem elem98 : elemA Try.prog 98 = some (2, 32, .agg #[.slice none 0 0, .int .i64 0]) := by kernel_rfl
theorem sz119 : sizeA Try.prog 119 = some 8 := by kernel_rfl
theorem agg119 : isAggA Try.prog 119 = some true := by kernel_rfl
theorem zero119 : zeroA Try.prog 119 = some (.agg #[.int .i64 0, .int .i64 0, .int .i64 0, .int .i64 0, .int .i64 0, .int .i64 0, .int .i64 0, .int .i64 0]) := by kernel_rfl
theorem elem119 : elemA Try.prog 119 = some (8, 64, .agg #[.int .i64 0, .int .i64 0, .int .i64 0, .int .i64 0, .int .i64 0, .int .i64 0, .int .i64 0, .int .i64 0]) := by kernel_rfl
theorem sz129 : sizeA Try.prog 129 = some 4 := by kernel_rfl
theorem agg129 : isAggA Try.prog 129 = some true := by kernel_rfl
theorem zero129 : zeroA Try.prog 129 = some (.agg #[.pointer none, .pointer none, .pointer none, .string ByteArray.empty]) := by kernel_rfl
theorem elem129 : elemA Try.prog 129 = some (4, 40, .agg #[.pointer none, .pointer none, .pointer none, .string ByteArray.empty]) := by kernel_rfl
theorem sz130 : sizeA Try.prog 130 = some 4 := by kernel_rfl
theorem agg130 : isAggA Try.prog 130 = some true := by kernel_rfl
theorem zero130 : zeroA Try.prog 130 = some (.agg #[.pointer none, .pointer none, .pointer none, .string ByteArray.empty]) := by kernel_rfl
theorem elem130 : elemA Try.prog 130 = some (4, 40, .agg #[.pointer none, .pointer none, .pointer none, .string ByteArray.empty]) := by kernel_rfl
theorem sz131 : sizeA Try.prog 131 = some 0 := by kernel_rfl
theorem agg131 : isAggA Try.prog 131 = some true := by kernel_rfl
theorem zero131 : zeroA Try.prog 131 = some (.agg #[]) := by kernel_rfl
theorem elem131 : elemA Try.prog 131 = some (0, 0, .agg #[]) := by kernel_rfl
theorem sz132 : sizeA Try.prog 132 = some 0 := by kernel_rfl
theorem agg132 : isAggA Try.prog 132 = some true := by kernel_rfl
theorem zero132 : zeroA Try.prog 132 = some (.agg #[]) := by kernel_rfl
theorem elem132 : elemA Try.prog 132 = some (0, 0, .agg #[]) := by kernel_rfl
theorem sz133 : sizeA Try.prog 133 = some 0 := by kernel_rfl
theorem agg133 : isAggA Try.prog 133 = some true := by kernel_rfl
theorem zero133 : zeroA Try.prog 133 = some (.agg #[]) := by kernel_rfl
theorem elem133 : elemA Try.prog 133 = some (0, 0, .agg #[]) := by kernel_rfl
theorem sz135 : sizeA Try.prog 135 = some 1 := by kernel_rfl
theorem agg135 : isAggA Try.prog 135 = some false := by kernel_rfl
theorem zero135 : zeroA Try.prog 135 = some (.int .u32 0) := by kernel_rfl
theorem elem135 : elemA Try.prog 135 = some (1, 4, .int .u32 0) := by kernel_rfl
theorem sz136 : sizeA Try.prog 136 = some 1 := by kernel_rfl
theorem agg136 : isAggA Try.prog 136 = some false := by kernel_rfl
theorem zero136 : zeroA Try.prog 136 = some (.int .u8 0) := by kernel_rfl
theorem elem136 : elemA Try.prog 136 = some (1, 1, .int .u8 0) := by kernel_rfl
theorem sz137 : sizeA Try.prog 137 = some 1 := by kernel_rfl
theorem agg137 : isAggA Try.prog 137 = some false := by kernel_rfl
theorem zero137 : zeroA Try.prog 137 = some (.int .u8 0) := by kernel_rfl
theorem elem137 : elemA Try.prog 137 = some (1, 1, .int .u8 0) := by kernel_rfl
theorem sz139 : sizeA Try.prog 139 = some 1 := by kernel_rfl
theorem agg139 : isAggA Try.prog 139 = some false := by kernel_rfl
theorem zero139 : zeroA Try.prog 139 = some (.pointer none) := by kernel_rfl
theorem elem139 : elemA Try.prog 139 = some (1, 8, .pointer none) := by kernel_rfl
theorem sz140 : sizeA Try.prog 140 = some 1 := by kernel_rfl
theorem agg140 : isAggA Try.prog 140 = some false := by kernel_rfl
theorem zero140 : zeroA Try.prog 140 = some (.int .i32 0) := by kernel_rfl
theorem elem140 : elemA Try.prog 140 = some (1, 4, .int .i32 0) := by kernel_rfl
theorem sz141 : sizeA Try.prog 141 = some 1 := by kernel_rfl
theorem agg141 : isAggA Try.prog 141 = some false := by kernel_rfl
theorem zero141 : zeroA Try.prog 141 = some (.int .i32 0) := by kernel_rfl
theorem elem141 : elemA Try.prog 141 = some (1, 4, .int .i32 0) := by kernel_rfl
theorem sz142 : sizeA Try.prog 142 = some 11 := by kernel_rfl
theorem agg142 : isAggA Try.prog 142 = some true := by kernel_rfl
theorem zero142 : zeroA Try.prog 142 = some (.agg #[.int .u64 0, .int .u64 0, .int .u32 0, .int .u8 0, .int .u8 0, .int .u8 0, .int .u8 0, .nilFunc, .pointer none, .int .i32 0, .int .i32 0]) := by kernel_rfl
theorem elem142 : elemA Try.prog 142 = some (11, 48, .agg #[.int .u64 0, .int .u64 0, .int .u32 0, .int .u8 0, .int .u8 0, .int .u8 0, .int .u8 0, .nilFunc, .pointer none, .int .i32 0, .int .i32 0]) := by kernel_rfl
theorem sz143 : sizeA Try.prog 143 = some 11 := by kernel_rfl
theorem agg143 : isAggA Try.prog 143 = some true := by kernel_rfl
theorem zero143 : zeroA Try.prog 143 = some (.agg #[.int .u64 0, .int .u64 0, .int .u32 0, .int .u8 0, .int .u8 0, .int .u8 0, .int .u8 0, .nilFunc, .pointer none, .int .i32 0, .int .i32 0]) := by kernel_rfl
theorem elem143 : elemA Try.prog 143 = some (11, 48, .agg #[.int .u64 0, .int .u64 0, .int .u32 0, .int .u8 0, .int .u8 0, .int .u8 0, .int .u8 0, .nilFunc, .pointer none, .int .i32 0, .int .i32 0]) := by kernel_rfl
theorem sz144 : sizeA Try.prog 144 = some 1 := by kernel_rfl
theorem agg144 : isAggA Try.prog 144 = some false := by kernel_rfl
theorem zero144 : zeroA Try.prog 144 = some (.pointer none) := by kernel_rfl
theorem elem144 : elemA Try.prog 144 = some (1, 8, .pointer none) := by kernel_rfl
theorem fa7_0 {i o : Nat} : fieldAddrA Try.prog 7 (.pointer (some ⟨i, o, none⟩)) 0 = some (.pointer (some ⟨i, o + 0, none⟩)) := by kernel_rfl
theorem fv7_0 {cs : Array Value} : fieldA Try.prog 7 (.agg cs) 0 = partA Try.prog 2 cs.toList 0 := by kernel_rfl
theorem fa7_1 {i o : Nat} : fieldAddrA Try.prog 7 (.pointer (some ⟨i, o, none⟩)) 1 = some (.pointer (some ⟨i, o + 1, none⟩)) := by kernel_rfl
theorem fv7_1 {cs : Array Value} : fieldA Try.prog 7 (.agg cs) 1 = partA Try.prog 3 cs.toList 1 := by kernel_rfl
theorem fa7_2 {i o : Nat} : fieldAddrA Try.prog 7 (.pointer (some ⟨i, o, none⟩)) 2 = some (.pointer (some ⟨i, o + 2, none⟩)) := by kernel_rfl
theorem fv7_2 {cs : Array Value} : fieldA Try.prog 7 (.agg cs) 2 = partA Try.prog 4 cs.toList 2 := by kernel_rfl
theorem fa7_3 {i o : Nat} : fieldAddrA Try.prog 7 (.pointer (some ⟨i, o, none⟩)) 3 = some (.pointer (some ⟨i, o + 3, none⟩)) := by kernel_rfl
theorem fv7_3 {cs : Array Value} : fieldA Try.prog 7 (.agg cs) 3 = partA Try.prog 6 cs.toList 3 := by kernel_rfl
theorem fa8_0 {i o : Nat} : fieldAddrA Try.prog 8 (.pointer (some ⟨i, o, none⟩)) 0 = some (.pointer (some ⟨i, o + 0, none⟩)) := by kernel_rfl
theorem fv8_0 {cs : Array Value} : fieldA Try.prog 8 (.agg cs) 0 = partA Try.prog 2 cs.toList 0 := by kernel_rfl
theorem fa8_1 {i o : Nat} : fieldAddrA Try.prog 8 (.pointer (some ⟨i, o, none⟩)) 1 = some (.pointer (some ⟨i, o + 1, none⟩)) := by kernel_rfl
theorem fv8_1 {cs : Array Value} : fieldA Try.prog 8 (.agg cs) 1 = partA Try.prog 3 cs.toList 1 := by kernel_rfl
theorem fa8_2 {i o : Nat} : fieldAddrA Try.prog 8 (.pointer (some ⟨i, o, none⟩)) 2 = some (.pointer (some ⟨i, o + 2, none⟩)) := by kernel_rfl
theorem fv8_2 {cs : Array Value} : fieldA Try.prog 8 (.agg cs) 2 = partA Try.prog 4 cs.toList 2 := by kernel_rfl
theorem fa8_3 {i o : Nat} : fieldAddrA Try.prog 8 (.pointer (some ⟨i, o, none⟩)) 3 = some (.pointer (some ⟨i, o + 3, none⟩)) := by kernel_rfl
theorem fv8_3 {cs : Array Value} : fieldA Try.prog 8 (.agg cs) 3 = partA Try.prog 6 cs.toList 3 := by kernel_rfl
theorem fa13_0 {i o : Nat} : fieldAddrA Try.prog 13 (.pointer (some ⟨i, o, none⟩)) 0 = some (.pointer (some ⟨i, o + 0, none⟩)) := by kernel_rfl
theorem fv13_0 {cs : Array Value} : fieldA Try.prog 13 (.agg cs) 0 = partA Try.prog 9 cs.toList 0 := by kernel_rfl
theorem fa13_1 {i o : Nat} : fieldAddrA Try.prog 13 (.pointer (some ⟨i, o, none⟩)) 1 = some (.pointer (some ⟨i, o + 1, none⟩)) := by kernel_rfl
theorem fv13_1 {cs : Array Value} : fieldA Try.prog 13 (.agg cs) 1 = partA Try.prog 12 cs.toList 1 := by kernel_rfl
theorem fa14_0 {i o : Nat} : fieldAddrA Try.prog 14 (.pointer (some ⟨i, o, none⟩)) 0 = some (.pointer (some ⟨i, o + 0, none⟩)) := by kernel_rfl
theorem fv14_0 {cs : Array Value} : fieldA Try.prog 14 (.agg cs) 0 = partA Try.prog 9 cs.toList 0 := by kernel_rfl
theorem fa14_1 {i o : Nat} : fieldAddrA Try.prog 14 (.pointer (some ⟨i, o, none⟩)) 1 = some (.pointer (some ⟨i, o + 1, none⟩)) := by kernel_rfl
theorem fv14_1 {cs : Array Value} : fieldA Try.prog 14 (.agg cs) 1 = partA Try.prog 12 cs.toList 1 := by kernel_rfl
theorem fa18_0 {i o : Nat} : fieldAddrA Try.prog 18 (.pointer (some ⟨i, o, none⟩)) 0 = some (.pointer (some ⟨i, o + 0, none⟩)) := by kernel_rfl
theorem fv18_0 {cs : Array Value} : fieldA Try.prog 18 (.agg cs) 0 = partA Try.prog 17 cs.toList 0 := by kernel_rfl
theorem fa19_0 {i o : Nat} : fieldAddrA Try.prog 19 (.pointer (some ⟨i, o, none⟩)) 0 = some (.pointer (some ⟨i, o + 0, none⟩)) := by kernel_rfl
theorem fv19_0 {cs : Array Value} : fieldA Try.prog 19 (.agg cs) 0 = partA Try.prog 17 cs.toList 0 := by kernel_rfl
theorem fa36_0 {i o : Nat} : fieldAddrA Try.prog 36 (.pointer (some ⟨i, o, none⟩)) 0 = some (.pointer (some ⟨i, o + 0, none⟩)) := by kernel_rfl
theorem fv36_0 {cs : Array Value} : fieldA Try.prog 36 (.agg cs) 0 = partA Try.prog 2 cs.toList 0 := by kernel_rfl
theorem fa36_1 {i o : Nat} : fieldAddrA Try.prog 36 (.pointer (some ⟨i, o, none⟩)) 1 = some (.pointer (some ⟨i, o + 1, none⟩)) := by kernel_rfl
theorem fv36_1 {cs : Array Value} : fieldA Try.prog 36 (.agg cs) 1 = partA Try.prog 2 cs.toList 1 := by kernel_rfl
theorem fa37_0 {i o : Nat} : fieldAddrA Try.prog 37 (.pointer (some ⟨i, o, none⟩)) 0 = some (.pointer (some ⟨i, o + 0, none⟩)) := by kernel_rfl
theorem fv37_0 {cs : Array Value} : fieldA Try.prog 37 (.agg cs) 0 = partA Try.prog 2 cs.toList 0 := by kernel_rfl
theorem fa37_1 {i o : Nat} : fieldAddrA Try.prog 37 (.pointer (some ⟨i, o, none⟩)) 1 = some (.pointer (some ⟨i, o + 1, none⟩)) := by kernel_rfl
theorem fv37_1 {cs : Array Value} : fieldA Try.prog 37 (.agg cs) 1 = partA Try.prog 2 cs.toList 1 := by kernel_rfl
theorem fa41_0 {i o : Nat} : fieldAddrA Try.prog 41 (.pointer (some ⟨i, o, none⟩)) 0 = some (.pointer (some ⟨i, o + 0, none⟩)) := by kernel_rfl
theorem fv41_0 {cs : Array Value} : fieldA Try.prog 41 (.agg cs) 0 = partA Try.prog 39 cs.toList 0 := by kernel_rfl
theorem fa41_1 {i o : Nat} : fieldAddrA Try.prog 41 (.pointer (some ⟨i, o, none⟩)) 1 = some (.pointer (some ⟨i, o + 1, none⟩)) := by kernel_rfl
theorem fv41_1 {cs : Array Value} : fieldA Try.prog 41 (.agg cs) 1 = partA Try.prog 40 cs.toList 1 := by kernel_rfl
theorem fa42_0 {i o : Nat} : fieldAddrA Try.prog 42 (.pointer (some ⟨i, o, none⟩)) 0 = some (.pointer (some ⟨i, o + 0, none⟩)) := by kernel_rfl
theorem fv42_0 {cs : Array Value} : fieldA Try.prog 42 (.agg cs) 0 = partA Try.prog 39 cs.toList 0 := by kernel_rfl
theorem fa42_1 {i o : Nat} : fieldAddrA Try.prog 42 (.pointer (some ⟨i, o, none⟩)) 1 = some (.pointer (some ⟨i, o + 1, none⟩)) := by kernel_rfl
theorem fv42_1 {cs : Array Value} : fieldA Try.prog 42 (.agg cs) 1 = partA Try.prog 40 cs.toList 1 := by kernel_rfl
theorem fa75_0 {i o : Nat} : fieldAddrA Try.prog 75 (.pointer (some ⟨i, o, none⟩)) 0 = some (.pointer (some ⟨i, o + 0, none⟩)) := by kernel_rfl
theorem fv75_0 {cs : Array Value} : fieldA Try.prog 75 (.agg cs) 0 = partA Try.prog 9 cs.toList 0 := by kernel_rfl
theorem fa75_1 {i o : Nat} : fieldAddrA Try.prog 75 (.pointer (some ⟨i, o, none⟩)) 1 = some (.pointer (some ⟨i, o + 1, none⟩)) := by kernel_rfl
theorem fv75_1 {cs : Array Value} : fieldA Try.prog 75 (.agg cs) 1 = partA Try.prog 3 cs.toList 1 := by kernel_rfl
theorem fa75_2 {i o : Nat} : fieldAddrA Try.prog 75 (.pointer (some ⟨i, o, none⟩)) 2 = some (.pointer (some ⟨i, o + 2, none⟩)) := by kernel_rfl
theorem fv75_2 {cs : Array Value} : fieldA Try.prog 75 (.agg cs) 2 = partA Try.prog 3 cs.toList 2 := by kernel_rfl
theorem fa75_3 {i o : Nat} : fieldAddrA Try.prog 75 (.pointer (some ⟨i, o, none⟩)) 3 = some (.pointer (some ⟨i, o + 3, none⟩)) := by kernel_rfl
theorem fv75_3 {cs : Array Value} : fieldA Try.prog 75 (.agg cs) 3 = partA Try.prog 74 cs.toList 3 := by kernel_rfl
theorem fa75_4 {i o : Nat} : fieldAddrA Try.prog 75 (.pointer (some ⟨i, o, none⟩)) 4 = some (.pointer (some ⟨i, o + 6, none⟩)) := by kernel_rfl
theorem fv75_4 {cs : Array Value} : fieldA Try.prog 75 (.agg cs) 4 = partA Try.prog 2 cs.toList 6 := by kernel_rfl
theorem fa75_5 {i o : Nat} : fieldAddrA Try.prog 75 (.pointer (some ⟨i, o, none⟩)) 5 = some (.pointer (some ⟨i, o + 7, none⟩)) := by kernel_rfl
theorem fv75_5 {cs : Array Value} : fieldA Try.prog 75 (.agg cs) 5 = partA Try.prog 2 cs.toList 7 := by kernel_rfl
theorem fa75_6 {i o : Nat} : fieldAddrA Try.prog 75 (.pointer (some ⟨i, o, none⟩)) 6 = some (.pointer (some ⟨i, o + 8, none⟩)) := by kernel_rfl
theorem fv75_6 {cs : Array Value} : fieldA Try.prog 75 (.agg cs) 6 = partA Try.prog 2 cs.toList 8 := by kernel_rfl
theorem fa75_7 {i o : Nat} : fieldAddrA Try.prog 75 (.pointer (some ⟨i, o, none⟩)) 7 = some (.pointer (some ⟨i, o + 9, none⟩)) := by kernel_rfl
theorem fv75_7 {cs : Array Value} : fieldA Try.prog 75 (.agg cs) 7 = partA Try.prog 2 cs.toList 9 := by kernel_rfl
theorem fa75_8 {i o : Nat} : fieldAddrA Try.prog 75 (.pointer (some ⟨i, o, none⟩)) 8 = some (.pointer (some ⟨i, o + 10, none⟩)) := by kernel_rfl
theorem fv75_8 {cs : Array Value} : fieldA Try.prog 75 (.agg cs) 8 = partA Try.prog 2 cs.toList 10 := by kernel_rfl
theorem fa75_9 {i o : Nat} : fieldAddrA Try.prog 75 (.pointer (some ⟨i, o, none⟩)) 9 = some (.pointer (some ⟨i, o + 11, none⟩)) := by kernel_rfl
theorem fv75_9 {cs : Array Value} : fieldA Try.prog 75 (.agg cs) 9 = partA Try.prog 2 cs.toList 11 := by kernel_rfl
theorem fa76_0 {i o : Nat} : fieldAddrA Try.prog 76 (.pointer (some ⟨i, o, none⟩)) 0 = some (.pointer (some ⟨i, o + 0, none⟩)) := by kernel_rfl
theorem fv76_0 {cs : Array Value} : fieldA Try.prog 76 (.agg cs) 0 = partA Try.prog 9 cs.toList 0 := by kernel_rfl
theorem fa76_1 {i o : Nat} : fieldAddrA Try.prog 76 (.pointer (some ⟨i, o, none⟩)) 1 = some (.pointer (some ⟨i, o + 1, none⟩)) := by kernel_rfl
theorem fv76_1 {cs : Array Value} : fieldA Try.prog 76 (.agg cs) 1 = partA Try.prog 3 cs.toList 1 := by kernel_rfl
theorem fa76_2 {i o : Nat} : fieldAddrA Try.prog 76 (.pointer (some ⟨i, o, none⟩)) 2 = some (.pointer (some ⟨i, o + 2, none⟩)) := by kernel_rfl
theorem fv76_2 {cs : Array Value} : fieldA Try.prog 76 (.agg cs) 2 = partA Try.prog 3 cs.toList 2 := by kernel_rfl
theorem fa76_3 {i o : Nat} : fieldAddrA Try.prog 76 (.pointer (some ⟨i, o, none⟩)) 3 = some (.pointer (some ⟨i, o + 3, none⟩)) := by kernel_rfl
theorem fv76_3 {cs : Array Value} : fieldA Try.prog 76 (.agg cs) 3 = partA Try.prog 74 cs.toList 3 := by kernel_rfl
theorem fa76_4 {i o : Nat} : fieldAddrA Try.prog 76 (.pointer (some ⟨i, o, none⟩)) 4 = some (.pointer (some ⟨i, o + 6, none⟩)) := by kernel_rfl
theorem fv76_4 {cs : Array Value} : fieldA Try.prog 76 (.agg cs) 4 = partA Try.prog 2 cs.toList 6 := by kernel_rfl
theorem fa76_5 {i o : Nat} : fieldAddrA Try.prog 76 (.pointer (some ⟨i, o, none⟩)) 5 = some (.pointer (some ⟨i, o + 7, none⟩)) := by kernel_rfl
theorem fv76_5 {cs : Array Value} : fieldA Try.prog 76 (.agg cs) 5 = partA Try.prog 2 cs.toList 7 := by kernel_rfl
theorem fa76_6 {i o : Nat} : fieldAddrA Try.prog 76 (.pointer (some ⟨i, o, none⟩)) 6 = some (.pointer (some ⟨i, o + 8, none⟩)) := by kernel_rfl
theorem fv76_6 {cs : Array Value} : fieldA Try.prog 76 (.agg cs) 6 = partA Try.prog 2 cs.toList 8 := by kernel_rfl
theorem fa76_7 {i o : Nat} : fieldAddrA Try.prog 76 (.pointer (some ⟨i, o, none⟩)) 7 = some (.pointer (some ⟨i, o + 9, none⟩)) := by kernel_rfl
theorem fv76_7 {cs : Array Value} : fieldA Try.prog 76 (.agg cs) 7 = partA Try.prog 2 cs.toList 9 := by kernel_rfl
theorem fa76_8 {i o : Nat} : fieldAddrA Try.prog 76 (.pointer (some ⟨i, o, none⟩)) 8 = some (.pointer (some ⟨i, o + 10, none⟩)) := by kernel_rfl
theorem fv76_8 {cs : Array Value} : fieldA Try.prog 76 (.agg cs) 8 = partA Try.prog 2 cs.toList 10 := by kernel_rfl
theorem fa76_9 {i o : Nat} : fieldAddrA Try.prog 76 (.pointer (some ⟨i, o, none⟩)) 9 = some (.pointer (some ⟨i, o + 11, none⟩)) := by kernel_rfl
theorem fv76_9 {cs : Array Value} : fieldA Try.prog 76 (.agg cs) 9 = partA Try.prog 2 cs.toList 11 := by kernel_rfl
theorem fa95_0 {i o : Nat} : fieldAddrA Try.prog 95 (.pointer (some ⟨i, o, none⟩)) 0 = some (.pointer (some ⟨i, o + 0, none⟩)) := by kernel_rfl
theorem fv95_0 {cs : Array Value} : fieldA Try.prog 95 (.agg cs) 0 = partA Try.prog 3 cs.toList 0 := by kernel_rfl
theorem fa95_1 {i o : Nat} : fieldAddrA Try.prog 95 (.pointer (some ⟨i, o, none⟩)) 1 = some (.pointer (some ⟨i, o + 1, none⟩)) := by kernel_rfl
theorem fv95_1 {cs : Array Value} : fieldA Try.prog 95 (.agg cs) 1 = partA Try.prog 2 cs.toList 1 := by kernel_rfl
theorem fa95_2 {i o : Nat} : fieldAddrA Try.prog 95 (.pointer (some ⟨i, o, none⟩)) 2 = some (.pointer (some ⟨i, o + 2, none⟩)) := by kernel_rfl
theorem fv95_2 {cs : Array Value} : fieldA Try.prog 95 (.agg cs) 2 = partA Try.prog 74 cs.toList 2 := by kernel_rfl
theorem fa96_0 {i o : Nat} : fieldAddrA Try.prog 96 (.pointer (some ⟨i, o, none⟩)) 0 = some (.pointer (some ⟨i, o + 0, none⟩)) := by kernel_rfl
theorem fv96_0 {cs : Array Value} : fieldA Try.prog 96 (.agg cs) 0 = partA Try.prog 3 cs.toList 0 := by kernel_rfl
theorem fa96_1 {i o : Nat} : fieldAddrA Try.prog 96 (.pointer (some ⟨i, o, none⟩)) 1 = some (.pointer (some ⟨i, o + 1, none⟩)) := by kernel_rfl
theorem fv96_1 {cs : Array Value} : fieldA Try.prog 96 (.agg cs) 1 = partA Try.prog 2 cs.toList 1 := by kernel_rfl
theorem fa96_2 {i o : Nat} : fieldAddrA Try.prog 96 (.pointer (some ⟨i, o, none⟩)) 2 = some (.pointer (some ⟨i, o + 2, none⟩)) := by kernel_rfl
theorem fv96_2 {cs : Array Value} : fieldA Try.prog 96 (.agg cs) 2 = partA Try.prog 74 cs.toList 2 := by kernel_rfl
theorem fa97_0 {i o : Nat} : fieldAddrA Try.prog 97 (.pointer (some ⟨i, o, none⟩)) 0 = some (.pointer (some ⟨i, o + 0, none⟩)) := by kernel_rfl
theorem fv97_0 {cs : Array Value} : fieldA Try.prog 97 (.agg cs) 0 = partA Try.prog 22 cs.toList 0 := by kernel_rfl
theorem fa97_1 {i o : Nat} : fieldAddrA Try.prog 97 (.pointer (some ⟨i, o, none⟩)) 1 = some (.pointer (some ⟨i, o + 1, none⟩)) := by kernel_rfl
theorem fv97_1 {cs : Array Value} : fieldA Try.prog 97 (.agg cs) 1 = partA Try.prog 3 cs.toList 1 := by kernel_rfl
theorem fa98_0 {i o : Nat} : fieldAddrA Try.prog 98 (.pointer (some ⟨i, o, none⟩)) 0 = some (.pointer (some ⟨i, o + 0, none⟩)) := by kernel_rfl
theorem fv98_0 {cs : Array Value} : fieldA Try.prog 98 (.agg cs) 0 = partA Try.prog 22 cs.toList 0 := by kernel_rfl
theorem fa98_1 {i o : Nat} : fieldAddrA Try.prog 98 (.pointer (some ⟨i, o, none⟩)) 1 = some (.pointer (some ⟨i, o + 1, none⟩)) := by kernel_rfl
theorem fv98_1 {cs : Array Value} : fieldA Try.prog 98 (.agg cs) 1 = partA Try.prog 3 cs.toList 1 := by kernel_rfl
theorem fa129_0 {i o : Nat} : fieldAddrA Try.prog 129 (.pointer (some ⟨i, o, none⟩)) 0 = some (.pointer (some ⟨i, o + 0, none⟩)) := by kernel_rfl
theorem fv129_0 {cs : Array Value} : fieldA Try.prog 129 (.agg cs) 0 = partA Try.prog 17 cs.toList 0 := by kernel_rfl
theorem fa129_1 {i o : Nat} : fieldAddrA Try.prog 129 (.pointer (some ⟨i, o, none⟩)) 1 = some (.pointer (some ⟨i, o + 1, none⟩)) := by kernel_rfl
theorem fv129_1 {cs : Array Value} : fieldA Try.prog 129 (.agg cs) 1 = partA Try.prog 17 cs.toList 1 := by kernel_rfl
theorem fa129_2 {i o : Nat} : fieldAddrA Try.prog 129 (.pointer (some ⟨i, o, none⟩)) 2 = some (.pointer (some ⟨i, o + 2, none⟩)) := by kernel_rfl
theorem fv129_2 {cs : Array Value} : fieldA Try.prog 129 (.agg cs) 2 = partA Try.prog 17 cs.toList 2 := by kernel_rfl
theorem fa129_3 {i o : Nat} : fieldAddrA Try.prog 129 (.pointer (some ⟨i, o, none⟩)) 3 = some (.pointer (some ⟨i, o + 3, none⟩)) := by kernel_rfl
theorem fv129_3 {cs : Array Value} : fieldA Try.prog 129 (.agg cs) 3 = partA Try.prog 9 cs.toList 3 := by kernel_rfl
theorem fa130_0 {i o : Nat} : fieldAddrA Try.prog 130 (.pointer (some ⟨i, o, none⟩)) 0 = some (.pointer (some ⟨i, o + 0, none⟩)) := by kernel_rfl
theorem fv130_0 {cs : Array Value} : fieldA Try.prog 130 (.agg cs) 0 = partA Try.prog 17 cs.toList 0 := by kernel_rfl
theorem fa130_1 {i o : Nat} : fieldAddrA Try.prog 130 (.pointer (some ⟨i, o, none⟩)) 1 = some (.pointer (some ⟨i, o + 1, none⟩)) := by kernel_rfl
theorem fv130_1 {cs : Array Value} : fieldA Try.prog 130 (.agg cs) 1 = partA Try.prog 17 cs.toList 1 := by kernel_rfl
theorem fa130_2 {i o : Nat} : fieldAddrA Try.prog 130 (.pointer (some ⟨i, o, none⟩)) 2 = some (.pointer (some ⟨i, o + 2, none⟩)) := by kernel_rfl
theorem fv130_2 {cs : Array Value} : fieldA Try.prog 130 (.agg cs) 2 = partA Try.prog 17 cs.toList 2 := by kernel_rfl
theorem fa130_3 {i o : Nat} : fieldAddrA Try.prog 130 (.pointer (some ⟨i, o, none⟩)) 3 = some (.pointer (some ⟨i, o + 3, none⟩)) := by kernel_rfl
theorem fv130_3 {cs : Array Value} : fieldA Try.prog 130 (.agg cs) 3 = partA Try.prog 9 cs.toList 3 := by kernel_rfl
theorem fa142_0 {i o : Nat} : fieldAddrA Try.prog 142 (.pointer (some ⟨i, o, none⟩)) 0 = some (.pointer (some ⟨i, o + 0, none⟩)) := by kernel_rfl
theorem fv142_0 {cs : Array Value} : fieldA Try.prog 142 (.agg cs) 0 = partA Try.prog 12 cs.toList 0 := by kernel_rfl
theorem fa142_1 {i o : Nat} : fieldAddrA Try.prog 142 (.pointer (some ⟨i, o, none⟩)) 1 = some (.pointer (some ⟨i, o + 1, none⟩)) := by kernel_rfl
theorem fv142_1 {cs : Array Value} : fieldA Try.prog 142 (.agg cs) 1 = partA Try.prog 12 cs.toList 1 := by kernel_rfl
theorem fa142_2 {i o : Nat} : fieldAddrA Try.prog 142 (.pointer (some ⟨i, o, none⟩)) 2 = some (.pointer (some ⟨i, o + 2, none⟩)) := by kernel_rfl
theorem fv142_2 {cs : Array Value} : fieldA Try.prog 142 (.agg cs) 2 = partA Try.prog 135 cs.toList 2 := by kernel_rfl
theorem fa142_3 {i o : Nat} : fieldAddrA Try.prog 142 (.pointer (some ⟨i, o, none⟩)) 3 = some (.pointer (some ⟨i, o + 3, none⟩)) := by kernel_rfl
theorem fv142_3 {cs : Array Value} : fieldA Try.prog 142 (.agg cs) 3 = partA Try.prog 136 cs.toList 3 := by kernel_rfl
theorem fa142_4 {i o : Nat} : fieldAddrA Try.prog 142 (.pointer (some ⟨i, o, none⟩)) 4 = some (.pointer (some ⟨i, o + 4, none⟩)) := by kernel_rfl
theorem fv142_4 {cs : Array Value} : fieldA Try.prog 142 (.agg cs) 4 = partA Try.prog 5 cs.toList 4 := by kernel_rfl
theorem fa142_5 {i o : Nat} : fieldAddrA Try.prog 142 (.pointer (some ⟨i, o, none⟩)) 5 = some (.pointer (some ⟨i, o + 5, none⟩)) := by kernel_rfl
theorem fv142_5 {cs : Array Value} : fieldA Try.prog 142 (.agg cs) 5 = partA Try.prog 5 cs.toList 5 := by kernel_rfl
theorem fa142_6 {i o : Nat} : fieldAddrA Try.prog 142 (.pointer (some ⟨i, o, none⟩)) 6 = some (.pointer (some ⟨i, o + 6, none⟩)) := by kernel_rfl
theorem fv142_6 {cs : Array Value} : fieldA Try.prog 142 (.agg cs) 6 = partA Try.prog 137 cs.toList 6 := by kernel_rfl
theorem fa142_7 {i o : Nat} : fieldAddrA Try.prog 142 (.pointer (some ⟨i, o, none⟩)) 7 = some (.pointer (some ⟨i, o + 7, none⟩)) := by kernel_rfl
theorem fv142_7 {cs : Array Value} : fieldA Try.prog 142 (.agg cs) 7 = partA Try.prog 138 cs.toList 7 := by kernel_rfl
theorem fa142_8 {i o : Nat} : fieldAddrA Try.prog 142 (.pointer (some ⟨i, o, none⟩)) 8 = some (.pointer (some ⟨i, o + 8, none⟩)) := by kernel_rfl
theorem fv142_8 {cs : Array Value} : fieldA Try.prog 142 (.agg cs) 8 = partA Try.prog 139 cs.toList 8 := by kernel_rfl
theorem fa142_9 {i o : Nat} : fieldAddrA Try.prog 142 (.pointer (some ⟨i, o, none⟩)) 9 = some (.pointer (some ⟨i, o + 9, none⟩)) := by kernel_rfl
theorem fv142_9 {cs : Array Value} : fieldA Try.prog 142 (.agg cs) 9 = partA Try.prog 140 cs.toList 9 := by kernel_rfl
theorem fa142_10 {i o : Nat} : fieldAddrA Try.prog 142 (.pointer (some ⟨i, o, none⟩)) 10 = some (.pointer (some ⟨i, o + 10, none⟩)) := by kernel_rfl
theorem fv142_10 {cs : Array Value} : fieldA Try.prog 142 (.agg cs) 10 = partA Try.prog 141 cs.toList 10 := by kernel_rfl
theorem fa143_0 {i o : Nat} : fieldAddrA Try.prog 143 (.pointer (some ⟨i, o, none⟩)) 0 = some (.pointer (some ⟨i, o + 0, none⟩)) := by kernel_rfl
theorem fv143_0 {cs : Array Value} : fieldA Try.prog 143 (.agg cs) 0 = partA Try.prog 12 cs.toList 0 := by kernel_rfl
theorem fa143_1 {i o : Nat} : fieldAddrA Try.prog 143 (.pointer (some ⟨i, o, none⟩)) 1 = some (.pointer (some ⟨i, o + 1, none⟩)) := by kernel_rfl
theorem fv143_1 {cs : Array Value} : fieldA Try.prog 143 (.agg cs) 1 = partA Try.prog 12 cs.toList 1 := by kernel_rfl
theorem fa143_2 {i o : Nat} : fieldAddrA Try.prog 143 (.pointer (some ⟨i, o, none⟩)) 2 = some (.pointer (some ⟨i, o + 2, none⟩)) := by kernel_rfl
theorem fv143_2 {cs : Array Value} : fieldA Try.prog 143 (.agg cs) 2 = partA Try.prog 135 cs.toList 2 := by kernel_rfl
theorem fa143_3 {i o : Nat} : fieldAddrA Try.prog 143 (.pointer (some ⟨i, o, none⟩)) 3 = some (.pointer (some ⟨i, o + 3, none⟩)) := by kernel_rfl
theorem fv143_3 {cs : Array Value} : fieldA Try.prog 143 (.agg cs) 3 = partA Try.prog 136 cs.toList 3 := by kernel_rfl
theorem fa143_4 {i o : Nat} : fieldAddrA Try.prog 143 (.pointer (some ⟨i, o, none⟩)) 4 = some (.pointer (some ⟨i, o + 4, none⟩)) := by kernel_rfl
theorem fv143_4 {cs : Array Value} : fieldA Try.prog 143 (.agg cs) 4 = partA Try.prog 5 cs.toList 4 := by kernel_rfl
theorem fa143_5 {i o : Nat} : fieldAddrA Try.prog 143 (.pointer (some ⟨i, o, none⟩)) 5 = some (.pointer (some ⟨i, o + 5, none⟩)) := by kernel_rfl
theorem fv143_5 {cs : Array Value} : fieldA Try.prog 143 (.agg cs) 5 = partA Try.prog 5 cs.toList 5 := by kernel_rfl
theorem fa143_6 {i o : Nat} : fieldAddrA Try.prog 143 (.pointer (some ⟨i, o, none⟩)) 6 = some (.pointer (some ⟨i, o + 6, none⟩)) := by kernel_rfl
theorem fv143_6 {cs : Array Value} : fieldA Try.prog 143 (.agg cs) 6 = partA Try.prog 137 cs.toList 6 := by kernel_rfl
theorem fa143_7 {i o : Nat} : fieldAddrA Try.prog 143 (.pointer (some ⟨i, o, none⟩)) 7 = some (.pointer (some ⟨i, o + 7, none⟩)) := by kernel_rfl
theorem fv143_7 {cs : Array Value} : fieldA Try.prog 143 (.agg cs) 7 = partA Try.prog 138 cs.toList 7 := by kernel_rfl
theorem fa143_8 {i o : Nat} : fieldAddrA Try.prog 143 (.pointer (some ⟨i, o, none⟩)) 8 = some (.pointer (some ⟨i, o + 8, none⟩)) := by kernel_rfl
theorem fv143_8 {cs : Array Value} : fieldA Try.prog 143 (.agg cs) 8 = partA Try.prog 139 cs.toList 8 := by kernel_rfl
theorem fa143_9 {i o : Nat} : fieldAddrA Try.prog 143 (.pointer (some ⟨i, o, none⟩)) 9 = some (.pointer (some ⟨i, o + 9, none⟩)) := by kernel_rfl
theorem fv143_9 {cs : Array Value} : fieldA Try.prog 143 (.agg cs) 9 = partA Try.prog 140 cs.toList 9 := by kernel_rfl
theorem fa143_10 {i o : Nat} : fieldAddrA Try.prog 143 (.pointer (some ⟨i, o, none⟩)) 10 = some (.pointer (some ⟨i, o + 10, none⟩)) := by kernel_rfl
theorem fv143_10 {cs : Array Value} : fieldA Try.prog 143 (.agg cs) 10 = partA Try.prog 141 cs.toList 10 := by kernel_rfl

attribute [simp] sz2 agg2 Try.underlying2 zero2 sz3 agg3 Try.underlying3 zero3 sz4 agg4 Try.underlying4 zero4 sz5 agg5 Try.underlying5 zero5 sz6 agg6 Try.underlying6 zero6 sz7 agg7 Try.underlying7 zero7 sz8 agg8 Try.underlying8 zero8 sz9 agg9 Try.underlying9 zero9 sz10 agg10 Try.underlying10 zero10 sz11 agg11 Try.underlying11 zero11 sz12 agg12 Try.underlying12 zero12 sz13 agg13 Try.underlying13 zero13 sz14 agg14 Try.underlying14 zero14 sz15 agg15 Try.underlying15 zero15 sz16 agg16 Try.underlying16 zero16 sz17 agg17 Try.underlying17 zero17 sz18 agg18 Try.underlying18 zero18 sz19 agg19 Try.underlying19 zero19 sz21 agg21 Try.underlying21 zero21 sz22 agg22 Try.underlying22 zero22 sz23 agg23 Try.underlying23 zero23 sz26 agg26 Try.underlying26 zero26 sz30 agg30 Try.underlying30 zero30 sz36 agg36 Try.underlying36 zero36 sz37 agg37 Try.underlying37 zero37 sz39 agg39 Try.underlying39 zero39 sz40 agg40 Try.underlying40 zero40 sz41 agg41 Try.underlying41 zero41 sz42 agg42 Try.underlying42 zero42 sz71 agg71 Try.underlying71 zero71 sz73 agg73 Try.underlying73 zero73 sz74 agg74 Try.underlying74 zero74 sz75 agg75 Try.underlying75 zero75 sz76 agg76 Try.underlying76 zero76 sz86 agg86 Try.underlying86 zero86 sz95 agg95 Try.underlying95 zero95 sz96 agg96 Try.underlying96 zero96 sz97 agg97 Try.underlying97 zero97 sz98 agg98 Try.underlying98 zero98 sz119 agg119 Try.underlying119 zero119 sz129 agg129 Try.underlying129 zero129 sz130 agg130 Try.underlying130 zero130 sz131 agg131 Try.underlying131 zero131 sz132 agg132 Try.underlying132 zero132 sz133 agg133 Try.underlying133 zero133 sz135 agg135 Try.underlying135 zero135 sz136 agg136 Try.underlying136 zero136 sz137 agg137 Try.underlying137 zero137 sz139 agg139 Try.underlying139 zero139 sz140 agg140 Try.underlying140 zero140 sz141 agg141 Try.underlying141 zero141 sz142 agg142 Try.underlying142 zero142 sz143 agg143 Try.underlying143 zero143 sz144 agg144 Try.underlying144 zero144 fa7_0 fv7_0 fa7_1 fv7_1 fa7_2 fv7_2 fa7_3 fv7_3 fa8_0 fv8_0 fa8_1 fv8_1 fa8_2 fv8_2 fa8_3 fv8_3 fa13_0 fv13_0 fa13_1 fv13_1 fa14_0 fv14_0 fa14_1 fv14_1 fa18_0 fv18_0 fa19_0 fv19_0 fa36_0 fv36_0 fa36_1 fv36_1 fa37_0 fv37_0 fa37_1 fv37_1 fa41_0 fv41_0 fa41_1 fv41_1 fa42_0 fv42_0 fa42_1 fv42_1 fa75_0 fv75_0 fa75_1 fv75_1 fa75_2 fv75_2 fa75_3 fv75_3 fa75_4 fv75_4 fa75_5 fv75_5 fa75_6 fv75_6 fa75_7 fv75_7 fa75_8 fv75_8 fa75_9 fv75_9 fa76_0 fv76_0 fa76_1 fv76_1 fa76_2 fv76_2 fa76_3 fv76_3 fa76_4 fv76_4 fa76_5 fv76_5 fa76_6 fv76_6 fa76_7 fv76_7 fa76_8 fv76_8 fa76_9 fv76_9 fa95_0 fv95_0 fa95_1 fv95_1 fa95_2 fv95_2 fa96_0 fv96_0 fa96_1 fv96_1 fa96_2 fv96_2 fa97_0 fv97_0 fa97_1 fv97_1 fa98_0 fv98_0 fa98_1 fv98_1 fa129_0 fv129_0 fa129_1 fv129_1 fa129_2 fv129_2 fa129_3 fv129_3 fa130_0 fv130_0 fa130_1 fv130_1 fa130_2 fv130_2 fa130_3 fv130_3 fa142_0 fv142_0 fa142_1 fv142_1 fa142_2 fv142_2 fa142_3 fv142_3 fa142_4 fv142_4 fa142_5 fv142_5 fa142_6 fv142_6 fa142_7 fv142_7 fa142_8 fv142_8 fa142_9 fv142_9 fa142_10 fv142_10 fa143_0 fv143_0 fa143_1 fv143_1 fa143_2 fv143_2 fa143_3 fv143_3 fa143_4 fv143_4 fa143_5 fv143_5 fa143_6 fv143_6 fa143_7 fv143_7 fa143_8 fv143_8 fa143_9 fv143_9 fa143_10 fv143_10

theorem fit : Fit Try.prog := ⟨Try.checked.mixed⟩

end Go.AM.Try
