/-
  A part of the proof of SideOrderCardSaid (see the last text, Om): no statement of its own, no condition.
-/
import Derived.Test.YtchgjamonjfjhaaGreatDoorEd
set_option linter.unusedSimpArgs false
set_option linter.unusedVariables false
section
namespace Go.Aw
open Go.Proofs
theorem td1 : tdOf Tryz.prog 1 = some (.other) := by kernel_rfl
theorem ti1 : tiOf Tryz.prog 1 = some ⟨.other, 1, 8, [.nilfunc]⟩ := by kernel_rfl
theorem td2 : tdOf Tryz.prog 2 = some (.int .i64) := by kernel_rfl
theorem ti2 : tiOf Tryz.prog 2 = some ⟨.int .i64, 1, 8, [.int .i64 0]⟩ := by kernel_rfl
theorem td3 : tdOf Tryz.prog 3 = some (.int .i64) := by kernel_rfl
theorem ti3 : tiOf Tryz.prog 3 = some ⟨.int .i64, 1, 8, [.int .i64 0]⟩ := by kernel_rfl
theorem td4 : tdOf Tryz.prog 4 = some (.bool) := by kernel_rfl
theorem ti4 : tiOf Tryz.prog 4 = some ⟨.bool, 1, 1, [.bool false]⟩ := by kernel_rfl
theorem td5 : tdOf Tryz.prog 5 = some (.int .u8) := by kernel_rfl
theorem ti5 : tiOf Tryz.prog 5 = some ⟨.int .u8, 1, 1, [.int .u8 0]⟩ := by kernel_rfl
theorem td6 : tdOf Tryz.prog 6 = some (.int .u8) := by kernel_rfl
theorem ti6 : tiOf Tryz.prog 6 = some ⟨.int .u8, 1, 1, [.int .u8 0]⟩ := by kernel_rfl
theorem td7 : tdOf Tryz.prog 7 = some (.struct [(0, 1), (1, 1), (2, 1), (3, 1)]) := by kernel_rfl
theorem ti7 : tiOf Tryz.prog 7 = some ⟨.struct [(0, 1), (1, 1), (2, 1), (3, 1)], 4, 24, [.int .i64 0, .int .i64 0, .bool false, .int .u8 0]⟩ := by kernel_rfl
theorem td8 : tdOf Tryz.prog 8 = some (.struct [(0, 1), (1, 1), (2, 1), (3, 1)]) := by kernel_rfl
theorem ti8 : tiOf Tryz.prog 8 = some ⟨.struct [(0, 1), (1, 1), (2, 1), (3, 1)], 4, 24, [.int .i64 0, .int .i64 0, .bool false, .int .u8 0]⟩ := by kernel_rfl
theorem td9 : tdOf Tryz.prog 9 = some (.string) := by kernel_rfl
theorem ti9 : tiOf Tryz.prog 9 = some ⟨.string, 1, 16, [.str ⟨#[]⟩]⟩ := by kernel_rfl
theorem td10 : tdOf Tryz.prog 10 = some (.string) := by kernel_rfl
theorem ti10 : tiOf Tryz.prog 10 = some ⟨.string, 1, 16, [.str ⟨#[]⟩]⟩ := by kernel_rfl
theorem td11 : tdOf Tryz.prog 11 = some (.string) := by kernel_rfl
theorem ti11 : tiOf Tryz.prog 11 = some ⟨.string, 1, 16, [.str ⟨#[]⟩]⟩ := by kernel_rfl
theorem td12 : tdOf Tryz.prog 12 = some (.int .u64) := by kernel_rfl
theorem ti12 : tiOf Tryz.prog 12 = some ⟨.int .u64, 1, 8, [.int .u64 0]⟩ := by kernel_rfl
theorem td13 : tdOf Tryz.prog 13 = some (.struct [(0, 1), (1, 1)]) := by kernel_rfl
theorem ti13 : tiOf Tryz.prog 13 = some ⟨.struct [(0, 1), (1, 1)], 2, 24, [.str ⟨#[]⟩, .int .u64 0]⟩ := by kernel_rfl
theorem td14 : tdOf Tryz.prog 14 = some (.struct [(0, 1), (1, 1)]) := by kernel_rfl
theorem ti14 : tiOf Tryz.prog 14 = some ⟨.struct [(0, 1), (1, 1)], 2, 24, [.str ⟨#[]⟩, .int .u64 0]⟩ := by kernel_rfl
theorem td15 : tdOf Tryz.prog 15 = some (.other) := by kernel_rfl
theorem ti15 : tiOf Tryz.prog 15 = some ⟨.other, 1, 8, [.nilptr]⟩ := by kernel_rfl
theorem td16 : tdOf Tryz.prog 16 = some (.other) := by kernel_rfl
theorem ti16 : tiOf Tryz.prog 16 = some ⟨.other, 1, 8, [.nilptr]⟩ := by kernel_rfl
theorem td17 : tdOf Tryz.prog 17 = some (.other) := by kernel_rfl
theorem ti17 : tiOf Tryz.prog 17 = some ⟨.other, 1, 8, [.nilptr]⟩ := by kernel_rfl
theorem td18 : tdOf Tryz.prog 18 = some (.struct [(0, 1)]) := by kernel_rfl
theorem ti18 : tiOf Tryz.prog 18 = some ⟨.struct [(0, 1)], 1, 8, [.nilptr]⟩ := by kernel_rfl
theorem td19 : tdOf Tryz.prog 19 = some (.struct [(0, 1)]) := by kernel_rfl
theorem ti19 : tiOf Tryz.prog 19 = some ⟨.struct [(0, 1)], 1, 8, [.nilptr]⟩ := by kernel_rfl
theorem td20 : tdOf Tryz.prog 20 = some (.iface) := by kernel_rfl
theorem ti20 : tiOf Tryz.prog 20 = some ⟨.iface, 1, 16, [.niliface]⟩ := by kernel_rfl
theorem td21 : tdOf Tryz.prog 21 = some (.int .i32) := by kernel_rfl
theorem ti21 : tiOf Tryz.prog 21 = some ⟨.int .i32, 1, 4, [.int .i32 0]⟩ := by kernel_rfl
theorem td22 : tdOf Tryz.prog 22 = some (.slice 5) := by kernel_rfl
theorem ti22 : tiOf Tryz.prog 22 = some ⟨.slice 5, 1, 24, [.nilsl]⟩ := by kernel_rfl
theorem td23 : tdOf Tryz.prog 23 = some (.other) := by kernel_rfl
theorem ti23 : tiOf Tryz.prog 23 = some ⟨.other, 1, 8, [.nilfunc]⟩ := by kernel_rfl
theorem td24 : tdOf Tryz.prog 24 = some (.slice 115) := by kernel_rfl
theorem ti24 : tiOf Tryz.prog 24 = some ⟨.slice 115, 1, 24, [.nilsl]⟩ := by kernel_rfl
theorem td25 : tdOf Tryz.prog 25 = some (.slice 119) := by kernel_rfl
theorem ti25 : tiOf Tryz.prog 25 = some ⟨.slice 119, 1, 24, [.nilsl]⟩ := by kernel_rfl
theorem td26 : tdOf Tryz.prog 26 = some (.slice 3) := by kernel_rfl
theorem ti26 : tiOf Tryz.prog 26 = some ⟨.slice 3, 1, 24, [.nilsl]⟩ := by kernel_rfl
theorem td27 : tdOf Tryz.prog 27 = some (.slice 104) := by kernel_rfl
theorem ti27 : tiOf Tryz.prog 27 = some ⟨.slice 104, 1, 24, [.nilsl]⟩ := by kernel_rfl
theorem td28 : tdOf Tryz.prog 28 = some (.slice 126) := by kernel_rfl
theorem ti28 : tiOf Tryz.prog 28 = some ⟨.slice 126, 1, 24, [.nilsl]⟩ := by kernel_rfl
theorem td29 : tdOf Tryz.prog 29 = some (.slice 123) := by kernel_rfl
theorem ti29 : tiOf Tryz.prog 29 = some ⟨.slice 123, 1, 24, [.nilsl]⟩ := by kernel_rfl
theorem td30 : tdOf Tryz.prog 30 = some (.slice 130) := by kernel_rfl
theorem ti30 : tiOf Tryz.prog 30 = some ⟨.slice 130, 1, 24, [.nilsl]⟩ := by kernel_rfl
theorem td31 : tdOf Tryz.prog 31 = some (.slice 134) := by kernel_rfl
theorem ti31 : tiOf Tryz.prog 31 = some ⟨.slice 134, 1, 24, [.nilsl]⟩ := by kernel_rfl
theorem td32 : tdOf Tryz.prog 32 = some (.slice 138) := by kernel_rfl
theorem ti32 : tiOf Tryz.prog 32 = some ⟨.slice 138, 1, 24, [.nilsl]⟩ := by kernel_rfl
theorem td33 : tdOf Tryz.prog 33 = some (.struct [(0, 1), (1, 1), (2, 1), (3, 1), (4, 1), (5, 1), (6, 1), (7, 1), (8, 1), (9, 1), (10, 1)]) := by kernel_rfl
theorem ti33 : tiOf Tryz.prog 33 = some ⟨.struct [(0, 1), (1, 1), (2, 1), (3, 1), (4, 1), (5, 1), (6, 1), (7, 1), (8, 1), (9, 1), (10, 1)], 11, 248, [.nilsl, .nilsl, .nilsl, .nilsl, .nilsl, .nilsl, .nilsl, .int .i64 0, .nilsl, .nilsl, .nilsl]⟩ := by kernel_rfl
theorem td34 : tdOf Tryz.prog 34 = some (.struct [(0, 1), (1, 1), (2, 1), (3, 1), (4, 1), (5, 1), (6, 1), (7, 1), (8, 1), (9, 1), (10, 1)]) := by kernel_rfl
theorem ti34 : tiOf Tryz.prog 34 = some ⟨.struct [(0, 1), (1, 1), (2, 1), (3, 1), (4, 1), (5, 1), (6, 1), (7, 1), (8, 1), (9, 1), (10, 1)], 11, 248, [.nilsl, .nilsl, .nilsl, .nilsl, .nilsl, .nilsl, .nilsl, .int .i64 0, .nilsl, .nilsl, .nilsl]⟩ := by kernel_rfl
theorem td35 : tdOf Tryz.prog 35 = some (.int .i64) := by kernel_rfl
theorem ti35 : tiOf Tryz.prog 35 = some ⟨.int .i64, 1, 8, [.int .i64 0]⟩ := by kernel_rfl
theorem td37 : tdOf Tryz.prog 37 = some (.other) := by kernel_rfl
theorem ti37 : tiOf Tryz.prog 37 = some ⟨.other, 1, 8, [.nilfunc]⟩ := by kernel_rfl
theorem td38 : tdOf Tryz.prog 38 = some (.other) := by kernel_rfl
theorem ti38 : tiOf Tryz.prog 38 = some ⟨.other, 1, 8, [.nilfunc]⟩ := by kernel_rfl
theorem td40 : tdOf Tryz.prog 40 = some (.other) := by kernel_rfl
theorem ti40 : tiOf Tryz.prog 40 = some ⟨.other, 1, 8, [.nilfunc]⟩ := by kernel_rfl
theorem td41 : tdOf Tryz.prog 41 = some (.slice 45) := by kernel_rfl
theorem ti41 : tiOf Tryz.prog 41 = some ⟨.slice 45, 1, 24, [.nilsl]⟩ := by kernel_rfl
theorem td43 : tdOf Tryz.prog 43 = some (.other) := by kernel_rfl
theorem ti43 : tiOf Tryz.prog 43 = some ⟨.other, 1, 8, [.nilfunc]⟩ := by kernel_rfl
theorem td44 : tdOf Tryz.prog 44 = some (.struct [(0, 1), (1, 1)]) := by kernel_rfl
theorem ti44 : tiOf Tryz.prog 44 = some ⟨.struct [(0, 1), (1, 1)], 2, 32, [.int .i64 0, .nilsl]⟩ := by kernel_rfl
theorem td45 : tdOf Tryz.prog 45 = some (.struct [(0, 1), (1, 1)]) := by kernel_rfl
theorem ti45 : tiOf Tryz.prog 45 = some ⟨.struct [(0, 1), (1, 1)], 2, 32, [.int .i64 0, .nilsl]⟩ := by kernel_rfl
theorem td47 : tdOf Tryz.prog 47 = some (.other) := by kernel_rfl
theorem ti47 : tiOf Tryz.prog 47 = some ⟨.other, 1, 8, [.nilfunc]⟩ := by kernel_rfl
theorem td48 : tdOf Tryz.prog 48 = some (.other) := by kernel_rfl
theorem ti48 : tiOf Tryz.prog 48 = some ⟨.other, 1, 8, [.nilfunc]⟩ := by kernel_rfl
theorem td49 : tdOf Tryz.prog 49 = some (.other) := by kernel_rfl
theorem ti49 : tiOf Tryz.prog 49 = some ⟨.other, 1, 8, [.nilfunc]⟩ := by kernel_rfl
theorem td50 : tdOf Tryz.prog 50 = some (.other) := by kernel_rfl
theorem ti50 : tiOf Tryz.prog 50 = some ⟨.other, 1, 8, [.nilfunc]⟩ := by kernel_rfl
theorem td51 : tdOf Tryz.prog 51 = some (.slice 53) := by kernel_rfl
theorem ti51 : tiOf Tryz.prog 51 = some ⟨.slice 53, 1, 24, [.nilsl]⟩ := by kernel_rfl
theorem td52 : tdOf Tryz.prog 52 = some (.other) := by kernel_rfl
theorem ti52 : tiOf Tryz.prog 52 = some ⟨.other, 1, 8, [.nilfunc]⟩ := by kernel_rfl
theorem td53 : tdOf Tryz.prog 53 = some (.array 2 3) := by kernel_rfl
theorem ti53 : tiOf Tryz.prog 53 = some ⟨.array 2 3, 2, 16, [.int .i64 0, .int .i64 0]⟩ := by kernel_rfl
theorem td54 : tdOf Tryz.prog 54 = some (.other) := by kernel_rfl
theorem ti54 : tiOf Tryz.prog 54 = some ⟨.other, 1, 8, [.nilfunc]⟩ := by kernel_rfl
theorem td55 : tdOf Tryz.prog 55 = some (.other) := by kernel_rfl
theorem ti55 : tiOf Tryz.prog 55 = some ⟨.other, 1, 8, [.nilfunc]⟩ := by kernel_rfl
theorem td56 : tdOf Tryz.prog 56 = some (.other) := by kernel_rfl
theorem ti56 : tiOf Tryz.prog 56 = some ⟨.other, 1, 8, [.nilfunc]⟩ := by kernel_rfl
theorem td57 : tdOf Tryz.prog 57 = some (.other) := by kernel_rfl
theorem ti57 : tiOf Tryz.prog 57 = some ⟨.other, 1, 8, [.nilfunc]⟩ := by kernel_rfl
theorem td58 : tdOf Tryz.prog 58 = some (.slice 179) := by kernel_rfl
theorem ti58 : tiOf Tryz.prog 58 = some ⟨.slice 179, 1, 24, [.nilsl]⟩ := by kernel_rfl
theorem td59 : tdOf Tryz.prog 59 = some (.struct [(0, 1), (1, 1), (2, 1), (3, 1), (4, 1), (5, 1), (6, 1)]) := by kernel_rfl
theorem ti59 : tiOf Tryz.prog 59 = some ⟨.struct [(0, 1), (1, 1), (2, 1), (3, 1), (4, 1), (5, 1), (6, 1)], 7, 136, [.nilsl, .nilsl, .int .i64 0, .int .i64 0, .nilsl, .nilsl, .nilsl]⟩ := by kernel_rfl
theorem td60 : tdOf Tryz.prog 60 = some (.struct [(0, 1), (1, 1), (2, 1), (3, 1), (4, 1), (5, 1), (6, 1)]) := by kernel_rfl
theorem ti60 : tiOf Tryz.prog 60 = some ⟨.struct [(0, 1), (1, 1), (2, 1), (3, 1), (4, 1), (5, 1), (6, 1)], 7, 136, [.nilsl, .nilsl, .int .i64 0, .int .i64 0, .nilsl, .nilsl, .nilsl]⟩ := by kernel_rfl
theorem td61 : tdOf Tryz.prog 61 = some (.other) := by kernel_rfl
theorem ti61 : tiOf Tryz.prog 61 = some ⟨.other, 1, 8, [.nilfunc]⟩ := by kernel_rfl
theorem td62 : tdOf Tryz.prog 62 = some (.slice 77) := by kernel_rfl
theorem ti62 : tiOf Tryz.prog 62 = some ⟨.slice 77, 1, 24, [.nilsl]⟩ := by kernel_rfl
theorem td63 : tdOf Tryz.prog 63 = some (.struct [(0, 1), (1, 1), (2, 1), (3, 1)]) := by kernel_rfl
theorem ti63 : tiOf Tryz.prog 63 = some ⟨.struct [(0, 1), (1, 1), (2, 1), (3, 1)], 4, 96, [.nilsl, .nilsl, .nilsl, .nilsl]⟩ := by kernel_rfl
theorem td64 : tdOf Tryz.prog 64 = some (.struct [(0, 1), (1, 1), (2, 1), (3, 1)]) := by kernel_rfl
theorem ti64 : tiOf Tryz.prog 64 = some ⟨.struct [(0, 1), (1, 1), (2, 1), (3, 1)], 4, 96, [.nilsl, .nilsl, .nilsl, .nilsl]⟩ := by kernel_rfl
theorem td66 : tdOf Tryz.prog 66 = some (.other) := by kernel_rfl
theorem ti66 : tiOf Tryz.prog 66 = some ⟨.other, 1, 8, [.nilfunc]⟩ := by kernel_rfl
theorem td67 : tdOf Tryz.prog 67 = some (.slice 180) := by kernel_rfl
theorem ti67 : tiOf Tryz.prog 67 = some ⟨.slice 180, 1, 24, [.nilsl]⟩ := by kernel_rfl
theorem td68 : tdOf Tryz.prog 68 = some (.struct [(0, 1), (1, 1), (2, 1), (3, 1), (4, 1), (5, 1), (6, 1)]) := by kernel_rfl
theorem ti68 : tiOf Tryz.prog 68 = some ⟨.struct [(0, 1), (1, 1), (2, 1), (3, 1), (4, 1), (5, 1), (6, 1)], 7, 136, [.nilsl, .nilsl, .int .i64 0, .int .i64 0, .nilsl, .nilsl, .nilsl]⟩ := by kernel_rfl
theorem td69 : tdOf Tryz.prog 69 = some (.struct [(0, 1), (1, 1), (2, 1), (3, 1), (4, 1), (5, 1), (6, 1)]) := by kernel_rfl
theorem ti69 : tiOf Tryz.prog 69 = some ⟨.struct [(0, 1), (1, 1), (2, 1), (3, 1), (4, 1), (5, 1), (6, 1)], 7, 136, [.nilsl, .nilsl, .int .i64 0, .int .i64 0, .nilsl, .nilsl, .nilsl]⟩ := by kernel_rfl
theorem td70 : tdOf Tryz.prog 70 = some (.other) := by kernel_rfl
theorem ti70 : tiOf Tryz.prog 70 = some ⟨.other, 1, 8, [.nilfunc]⟩ := by kernel_rfl
theorem td71 : tdOf Tryz.prog 71 = some (.slice 80) := by kernel_rfl
theorem ti71 : tiOf Tryz.prog 71 = some ⟨.slice 80, 1, 24, [.nilsl]⟩ := by kernel_rfl
theorem td72 : tdOf Tryz.prog 72 = some (.struct [(0, 1), (1, 1), (2, 1), (3, 1)]) := by kernel_rfl
theorem ti72 : tiOf Tryz.prog 72 = some ⟨.struct [(0, 1), (1, 1), (2, 1), (3, 1)], 4, 96, [.nilsl, .nilsl, .nilsl, .nilsl]⟩ := by kernel_rfl
theorem td73 : tdOf Tryz.prog 73 = some (.struct [(0, 1), (1, 1), (2, 1), (3, 1)]) := by kernel_rfl
theorem ti73 : tiOf Tryz.prog 73 = some ⟨.struct [(0, 1), (1, 1), (2, 1), (3, 1)], 4, 96, [.nilsl, .nilsl, .nilsl, .nilsl]⟩ := by kernel_rfl
theorem td75 : tdOf Tryz.prog 75 = some (.other) := by kernel_rfl
theorem ti75 : tiOf Tryz.prog 75 = some ⟨.other, 1, 8, [.nilfunc]⟩ := by kernel_rfl
theorem td76 : tdOf Tryz.prog 76 = some (.struct [(0, 1), (1, 1), (2, 1), (3, 1)]) := by kernel_rfl
theorem ti76 : tiOf Tryz.prog 76 = some ⟨.struct [(0, 1), (1, 1), (2, 1), (3, 1)], 4, 32, [.int .i64 0, .int .i64 0, .int .i64 0, .int .i64 0]⟩ := by kernel_rfl
theorem td77 : tdOf Tryz.prog 77 = some (.struct [(0, 1), (1, 1), (2, 1), (3, 1)]) := by kernel_rfl
theorem ti77 : tiOf Tryz.prog 77 = some ⟨.struct [(0, 1), (1, 1), (2, 1), (3, 1)], 4, 32, [.int .i64 0, .int .i64 0, .int .i64 0, .int .i64 0]⟩ := by kernel_rfl
theorem td79 : tdOf Tryz.prog 79 = some (.other) := by kernel_rfl
theorem ti79 : tiOf Tryz.prog 79 = some ⟨.other, 1, 8, [.nilfunc]⟩ := by kernel_rfl
theorem td80 : tdOf Tryz.prog 80 = some (.struct [(0, 1), (1, 1), (2, 1), (3, 1)]) := by kernel_rfl
theorem ti80 : tiOf Tryz.prog 80 = some ⟨.struct [(0, 1), (1, 1), (2, 1), (3, 1)], 4, 32, [.int .i64 0, .int .i64 0, .int .i64 0, .int .i64 0]⟩ := by kernel_rfl
theorem td82 : tdOf Tryz.prog 82 = some (.other) := by kernel_rfl
theorem ti82 : tiOf Tryz.prog 82 = some ⟨.other, 1, 8, [.nilfunc]⟩ := by kernel_rfl
theorem td83 : tdOf Tryz.prog 83 = some (.other) := by kernel_rfl
theorem ti83 : tiOf Tryz.prog 83 = some ⟨.other, 1, 8, [.nilfunc]⟩ := by kernel_rfl
theorem td84 : tdOf Tryz.prog 84 = some (.other) := by kernel_rfl
theorem ti84 : tiOf Tryz.prog 84 = some ⟨.other, 1, 8, [.nilfunc]⟩ := by kernel_rfl
theorem td85 : tdOf Tryz.prog 85 = some (.other) := by kernel_rfl
theorem ti85 : tiOf Tryz.prog 85 = some ⟨.other, 1, 8, [.nilfunc]⟩ := by kernel_rfl
theorem td86 : tdOf Tryz.prog 86 = some (.other) := by kernel_rfl
theorem ti86 : tiOf Tryz.prog 86 = some ⟨.other, 1, 8, [.nilfunc]⟩ := by kernel_rfl
theorem td87 : tdOf Tryz.prog 87 = some (.other) := by kernel_rfl
theorem ti87 : tiOf Tryz.prog 87 = some ⟨.other, 1, 8, [.nilfunc]⟩ := by kernel_rfl
theorem td88 : tdOf Tryz.prog 88 = some (.other) := by kernel_rfl
theorem ti88 : tiOf Tryz.prog 88 = some ⟨.other, 1, 8, [.nilfunc]⟩ := by kernel_rfl
theorem td89 : tdOf Tryz.prog 89 = some (.other) := by kernel_rfl
theorem ti89 : tiOf Tryz.prog 89 = some ⟨.other, 1, 8, [.nilfunc]⟩ := by kernel_rfl
theorem td90 : tdOf Tryz.prog 90 = some (.slice 97) := by kernel_rfl
theorem ti90 : tiOf Tryz.prog 90 = some ⟨.slice 97, 1, 24, [.nilsl]⟩ := by kernel_rfl
theorem td91 : tdOf Tryz.prog 91 = some (.other) := by kernel_rfl
theorem ti91 : tiOf Tryz.prog 91 = some ⟨.other, 1, 8, [.nilfunc]⟩ := by kernel_rfl
theorem td92 : tdOf Tryz.prog 92 = some (.other) := by kernel_rfl
theorem ti92 : tiOf Tryz.prog 92 = some ⟨.other, 1, 8, [.nilfunc]⟩ := by kernel_rfl
theorem td93 : tdOf Tryz.prog 93 = some (.other) := by kernel_rfl
theorem ti93 : tiOf Tryz.prog 93 = some ⟨.other, 1, 8, [.nilfunc]⟩ := by kernel_rfl
theorem td94 : tdOf Tryz.prog 94 = some (.other) := by kernel_rfl
theorem ti94 : tiOf Tryz.prog 94 = some ⟨.other, 1, 8, [.nilfunc]⟩ := by kernel_rfl
theorem td95 : tdOf Tryz.prog 95 = some (.int .u64) := by kernel_rfl
theorem ti95 : tiOf Tryz.prog 95 = some ⟨.int .u64, 1, 8, [.int .u64 0]⟩ := by kernel_rfl
theorem td96 : tdOf Tryz.prog 96 = some (.struct [(0, 1), (1, 1), (2, 1), (3, 1), (4, 1)]) := by kernel_rfl
theorem ti96 : tiOf Tryz.prog 96 = some ⟨.struct [(0, 1), (1, 1), (2, 1), (3, 1), (4, 1)], 5, 56, [.int .i64 0, .int .i64 0, .int .i64 0, .int .u64 0, .nilsl]⟩ := by kernel_rfl
theorem td97 : tdOf Tryz.prog 97 = some (.struct [(0, 1), (1, 1), (2, 1), (3, 1), (4, 1)]) := by kernel_rfl
theorem ti97 : tiOf Tryz.prog 97 = some ⟨.struct [(0, 1), (1, 1), (2, 1), (3, 1), (4, 1)], 5, 56, [.int .i64 0, .int .i64 0, .int .i64 0, .int .u64 0, .nilsl]⟩ := by kernel_rfl
theorem td99 : tdOf Tryz.prog 99 = some (.other) := by kernel_rfl
theorem ti99 : tiOf Tryz.prog 99 = some ⟨.other, 1, 8, [.nilfunc]⟩ := by kernel_rfl
theorem td100 : tdOf Tryz.prog 100 = some (.other) := by kernel_rfl
theorem ti100 : tiOf Tryz.prog 100 = some ⟨.other, 1, 8, [.nilfunc]⟩ := by kernel_rfl
theorem td101 : tdOf Tryz.prog 101 = some (.other) := by kernel_rfl
theorem ti101 : tiOf Tryz.prog 101 = some ⟨.other, 1, 8, [.nilfunc]⟩ := by kernel_rfl
theorem td102 : tdOf Tryz.prog 102 = some (.other) := by kernel_rfl
theorem ti102 : tiOf Tryz.prog 102 = some ⟨.other, 1, 8, [.nilfunc]⟩ := by kernel_rfl
theorem td103 : tdOf Tryz.prog 103 = some (.struct [(0, 1), (1, 1), (2, 1)]) := by kernel_rfl
theorem ti103 : tiOf Tryz.prog 103 = some ⟨.struct [(0, 1), (1, 1), (2, 1)], 3, 24, [.int .i64 0, .int .i64 0, .bool false]⟩ := by kernel_rfl
theorem td104 : tdOf Tryz.prog 104 = some (.struct [(0, 1), (1, 1), (2, 1)]) := by kernel_rfl
theorem ti104 : tiOf Tryz.prog 104 = some ⟨.struct [(0, 1), (1, 1), (2, 1)], 3, 24, [.int .i64 0, .int .i64 0, .bool false]⟩ := by kernel_rfl
theorem td105 : tdOf Tryz.prog 105 = some (.struct [(0, 1)]) := by kernel_rfl
theorem ti105 : tiOf Tryz.prog 105 = some ⟨.struct [(0, 1)], 1, 8, [.int .i64 0]⟩ := by kernel_rfl
theorem td106 : tdOf Tryz.prog 106 = some (.struct [(0, 1)]) := by kernel_rfl
theorem ti106 : tiOf Tryz.prog 106 = some ⟨.struct [(0, 1)], 1, 8, [.int .i64 0]⟩ := by kernel_rfl
theorem td107 : tdOf Tryz.prog 107 = some (.other) := by kernel_rfl
theorem ti107 : tiOf Tryz.prog 107 = some ⟨.other, 1, 8, [.nilfunc]⟩ := by kernel_rfl
theorem td108 : tdOf Tryz.prog 108 = some (.other) := by kernel_rfl
theorem ti108 : tiOf Tryz.prog 108 = some ⟨.other, 1, 8, [.nilptr]⟩ := by kernel_rfl
theorem td109 : tdOf Tryz.prog 109 = some (.struct [(0, 1), (1, 1)]) := by kernel_rfl
theorem ti109 : tiOf Tryz.prog 109 = some ⟨.struct [(0, 1), (1, 1)], 2, 32, [.nilsl, .int .i64 0]⟩ := by kernel_rfl
theorem td110 : tdOf Tryz.prog 110 = some (.struct [(0, 1), (1, 1)]) := by kernel_rfl
theorem ti110 : tiOf Tryz.prog 110 = some ⟨.struct [(0, 1), (1, 1)], 2, 32, [.nilsl, .int .i64 0]⟩ := by kernel_rfl
theorem td111 : tdOf Tryz.prog 111 = some (.other) := by kernel_rfl
theorem ti111 : tiOf Tryz.prog 111 = some ⟨.other, 1, 8, [.nilfunc]⟩ := by kernel_rfl
theorem td112 : tdOf Tryz.prog 112 = some (.other) := by kernel_rfl
theorem ti112 : tiOf Tryz.prog 112 = some ⟨.other, 1, 8, [.nilptr]⟩ := by kernel_rfl
theorem td113 : tdOf Tryz.prog 113 = some (.other) := by kernel_rfl
theorem ti113 : tiOf Tryz.prog 113 = some ⟨.other, 1, 8, [.nilfunc]⟩ := by kernel_rfl
theorem td114 : tdOf Tryz.prog 114 = some (.struct [(0, 1), (1, 1)]) := by kernel_rfl
theorem ti114 : tiOf Tryz.prog 114 = some ⟨.struct [(0, 1), (1, 1)], 2, 48, [.nilsl, .nilsl]⟩ := by kernel_rfl
theorem td115 : tdOf Tryz.prog 115 = some (.struct [(0, 1), (1, 1)]) := by kernel_rfl
theorem ti115 : tiOf Tryz.prog 115 = some ⟨.struct [(0, 1), (1, 1)], 2, 48, [.nilsl, .nilsl]⟩ := by kernel_rfl
theorem td116 : tdOf Tryz.prog 116 = some (.other) := by kernel_rfl
theorem ti116 : tiOf Tryz.prog 116 = some ⟨.other, 1, 8, [.nilfunc]⟩ := by kernel_rfl
theorem td117 : tdOf Tryz.prog 117 = some (.other) := by kernel_rfl
theorem ti117 : tiOf Tryz.prog 117 = some ⟨.other, 1, 8, [.nilfunc]⟩ := by kernel_rfl
theorem td118 : tdOf Tryz.prog 118 = some (.struct [(0, 1), (1, 1), (2, 1), (3, 1), (4, 3), (7, 1), (8, 1)]) := by kernel_rfl
theorem ti118 : tiOf Tryz.prog 118 = some ⟨.struct [(0, 1), (1, 1), (2, 1), (3, 1), (4, 3), (7, 1), (8, 1)], 9, 80, [.str ⟨#[]⟩, .str ⟨#[]⟩, .int .i64 0, .int .i64 0, .int .i64 0, .int .i64 0, .bool false, .int .u8 0, .bool false]⟩ := by kernel_rfl
theorem td119 : tdOf Tryz.prog 119 = some (.struct [(0, 1), (1, 1), (2, 1), (3, 1), (4, 3), (7, 1), (8, 1)]) := by kernel_rfl
theorem ti119 : tiOf Tryz.prog 119 = some ⟨.struct [(0, 1), (1, 1), (2, 1), (3, 1), (4, 3), (7, 1), (8, 1)], 9, 80, [.str ⟨#[]⟩, .str ⟨#[]⟩, .int .i64 0, .int .i64 0, .int .i64 0, .int .i64 0, .bool false, .int .u8 0, .bool false]⟩ := by kernel_rfl
theorem td120 : tdOf Tryz.prog 120 = some (.other) := by kernel_rfl
theorem ti120 : tiOf Tryz.prog 120 = some ⟨.other, 1, 8, [.nilfunc]⟩ := by kernel_rfl
theorem td121 : tdOf Tryz.prog 121 = some (.other) := by kernel_rfl
theorem ti121 : tiOf Tryz.prog 121 = some ⟨.other, 1, 8, [.nilfunc]⟩ := by kernel_rfl
theorem td122 : tdOf Tryz.prog 122 = some (.struct [(0, 1), (1, 1), (2, 1)]) := by kernel_rfl
theorem ti122 : tiOf Tryz.prog 122 = some ⟨.struct [(0, 1), (1, 1), (2, 1)], 3, 32, [.str ⟨#[]⟩, .int .i64 0, .int .i64 0]⟩ := by kernel_rfl
theorem td123 : tdOf Tryz.prog 123 = some (.struct [(0, 1), (1, 1), (2, 1)]) := by kernel_rfl
theorem ti123 : tiOf Tryz.prog 123 = some ⟨.struct [(0, 1), (1, 1), (2, 1)], 3, 32, [.str ⟨#[]⟩, .int .i64 0, .int .i64 0]⟩ := by kernel_rfl
theorem td124 : tdOf Tryz.prog 124 = some (.other) := by kernel_rfl
theorem ti124 : tiOf Tryz.prog 124 = some ⟨.other, 1, 8, [.nilfunc]⟩ := by kernel_rfl
theorem td125 : tdOf Tryz.prog 125 = some (.struct [(0, 1), (1, 1), (2, 5)]) := by kernel_rfl
theorem ti125 : tiOf Tryz.prog 125 = some ⟨.struct [(0, 1), (1, 1), (2, 5)], 7, 64, [.int .u8 0, .bool false, .int .i64 0, .int .i64 0, .int .i64 0, .int .u64 0, .nilsl]⟩ := by kernel_rfl
theorem td126 : tdOf Tryz.prog 126 = some (.struct [(0, 1), (1, 1), (2, 5)]) := by kernel_rfl
theorem ti126 : tiOf Tryz.prog 126 = some ⟨.struct [(0, 1), (1, 1), (2, 5)], 7, 64, [.int .u8 0, .bool false, .int .i64 0, .int .i64 0, .int .i64 0, .int .u64 0, .nilsl]⟩ := by kernel_rfl
theorem td127 : tdOf Tryz.prog 127 = some (.other) := by kernel_rfl
theorem ti127 : tiOf Tryz.prog 127 = some ⟨.other, 1, 8, [.nilfunc]⟩ := by kernel_rfl
theorem td128 : tdOf Tryz.prog 128 = some (.other) := by kernel_rfl
theorem ti128 : tiOf Tryz.prog 128 = some ⟨.other, 1, 8, [.nilfunc]⟩ := by kernel_rfl
theorem td129 : tdOf Tryz.prog 129 = some (.struct [(0, 5), (5, 1)]) := by kernel_rfl
theorem ti129 : tiOf Tryz.prog 129 = some ⟨.struct [(0, 5), (5, 1)], 6, 80, [.int .i64 0, .int .i64 0, .int .i64 0, .int .u64 0, .nilsl, .nilsl]⟩ := by kernel_rfl
theorem td130 : tdOf Tryz.prog 130 = some (.struct [(0, 5), (5, 1)]) := by kernel_rfl
theorem ti130 : tiOf Tryz.prog 130 = some ⟨.struct [(0, 5), (5, 1)], 6, 80, [.int .i64 0, .int .i64 0, .int .i64 0, .int .u64 0, .nilsl, .nilsl]⟩ := by kernel_rfl
theorem td131 : tdOf Tryz.prog 131 = some (.other) := by kernel_rfl
theorem ti131 : tiOf Tryz.prog 131 = some ⟨.other, 1, 8, [.nilfunc]⟩ := by kernel_rfl
theorem td132 : tdOf Tryz.prog 132 = some (.other) := by kernel_rfl
theorem ti132 : tiOf Tryz.prog 132 = some ⟨.other, 1, 8, [.nilfunc]⟩ := by kernel_rfl
theorem td133 : tdOf Tryz.prog 133 = some (.struct [(0, 1), (1, 1)]) := by kernel_rfl
theorem ti133 : tiOf Tryz.prog 133 = some ⟨.struct [(0, 1), (1, 1)], 2, 48, [.nilsl, .nilsl]⟩ := by kernel_rfl
theorem td134 : tdOf Tryz.prog 134 = some (.struct [(0, 1), (1, 1)]) := by kernel_rfl
theorem ti134 : tiOf Tryz.prog 134 = some ⟨.struct [(0, 1), (1, 1)], 2, 48, [.nilsl, .nilsl]⟩ := by kernel_rfl
theorem td135 : tdOf Tryz.prog 135 = some (.other) := by kernel_rfl
theorem ti135 : tiOf Tryz.prog 135 = some ⟨.other, 1, 8, [.nilfunc]⟩ := by kernel_rfl
theorem td136 : tdOf Tryz.prog 136 = some (.other) := by kernel_rfl
theorem ti136 : tiOf Tryz.prog 136 = some ⟨.other, 1, 8, [.nilfunc]⟩ := by kernel_rfl
theorem td137 : tdOf Tryz.prog 137 = some (.struct [(0, 5), (5, 1)]) := by kernel_rfl
theorem ti137 : tiOf Tryz.prog 137 = some ⟨.struct [(0, 5), (5, 1)], 6, 80, [.int .i64 0, .int .i64 0, .int .i64 0, .int .u64 0, .nilsl, .nilsl]⟩ := by kernel_rfl
theorem td138 : tdOf Tryz.prog 138 = some (.struct [(0, 5), (5, 1)]) := by kernel_rfl
theorem ti138 : tiOf Tryz.prog 138 = some ⟨.struct [(0, 5), (5, 1)], 6, 80, [.int .i64 0, .int .i64 0, .int .i64 0, .int .u64 0, .nilsl, .nilsl]⟩ := by kernel_rfl
theorem td139 : tdOf Tryz.prog 139 = some (.other) := by kernel_rfl
theorem ti139 : tiOf Tryz.prog 139 = some ⟨.other, 1, 8, [.nilfunc]⟩ := by kernel_rfl
theorem td140 : tdOf Tryz.prog 140 = some (.other) := by kernel_rfl
theorem ti140 : tiOf Tryz.prog 140 = some ⟨.other, 1, 8, [.nilptr]⟩ := by kernel_rfl
theorem td141 : tdOf Tryz.prog 141 = some (.struct [(0, 1), (1, 1)]) := by kernel_rfl
theorem ti141 : tiOf Tryz.prog 141 = some ⟨.struct [(0, 1), (1, 1)], 2, 32, [.nilsl, .bool false]⟩ := by kernel_rfl
theorem td142 : tdOf Tryz.prog 142 = some (.struct [(0, 1), (1, 1)]) := by kernel_rfl
theorem ti142 : tiOf Tryz.prog 142 = some ⟨.struct [(0, 1), (1, 1)], 2, 32, [.nilsl, .bool false]⟩ := by kernel_rfl
theorem td143 : tdOf Tryz.prog 143 = some (.other) := by kernel_rfl
theorem ti143 : tiOf Tryz.prog 143 = some ⟨.other, 1, 8, [.nilfunc]⟩ := by kernel_rfl
theorem td144 : tdOf Tryz.prog 144 = some (.other) := by kernel_rfl
theorem ti144 : tiOf Tryz.prog 144 = some ⟨.other, 1, 8, [.nilfunc]⟩ := by kernel_rfl
theorem td145 : tdOf Tryz.prog 145 = some (.other) := by kernel_rfl
theorem ti145 : tiOf Tryz.prog 145 = some ⟨.other, 1, 8, [.nilptr]⟩ := by kernel_rfl
theorem td146 : tdOf Tryz.prog 146 = some (.struct [(0, 1)]) := by kernel_rfl
theorem ti146 : tiOf Tryz.prog 146 = some ⟨.struct [(0, 1)], 1, 8, [.int .i64 0]⟩ := by kernel_rfl
theorem td147 : tdOf Tryz.prog 147 = some (.struct [(0, 1)]) := by kernel_rfl
theorem ti147 : tiOf Tryz.prog 147 = some ⟨.struct [(0, 1)], 1, 8, [.int .i64 0]⟩ := by kernel_rfl
theorem td149 : tdOf Tryz.prog 149 = some (.other) := by kernel_rfl
theorem ti149 : tiOf Tryz.prog 149 = some ⟨.other, 1, 8, [.nilfunc]⟩ := by kernel_rfl
theorem td150 : tdOf Tryz.prog 150 = some (.other) := by kernel_rfl
theorem ti150 : tiOf Tryz.prog 150 = some ⟨.other, 1, 8, [.nilfunc]⟩ := by kernel_rfl
theorem td151 : tdOf Tryz.prog 151 = some (.other) := by kernel_rfl
theorem ti151 : tiOf Tryz.prog 151 = some ⟨.other, 1, 8, [.nilfunc]⟩ := by kernel_rfl
theorem td152 : tdOf Tryz.prog 152 = some (.other) := by kernel_rfl
theorem ti152 : tiOf Tryz.prog 152 = some ⟨.other, 1, 8, [.nilfunc]⟩ := by kernel_rfl
theorem td153 : tdOf Tryz.prog 153 = some (.other) := by kernel_rfl
theorem ti153 : tiOf Tryz.prog 153 = some ⟨.other, 1, 8, [.nilfunc]⟩ := by kernel_rfl
theorem td154 : tdOf Tryz.prog 154 = some (.slice 158) := by kernel_rfl
theorem ti154 : tiOf Tryz.prog 154 = some ⟨.slice 158, 1, 24, [.nilsl]⟩ := by kernel_rfl
theorem td155 : tdOf Tryz.prog 155 = some (.other) := by kernel_rfl
theorem ti155 : tiOf Tryz.prog 155 = some ⟨.other, 1, 8, [.nilptr]⟩ := by kernel_rfl
theorem td156 : tdOf Tryz.prog 156 = some (.struct [(0, 1), (1, 1)]) := by kernel_rfl
theorem ti156 : tiOf Tryz.prog 156 = some ⟨.struct [(0, 1), (1, 1)], 2, 32, [.nilsl, .bool false]⟩ := by kernel_rfl
theorem td157 : tdOf Tryz.prog 157 = some (.struct [(0, 1), (1, 1)]) := by kernel_rfl
theorem ti157 : tiOf Tryz.prog 157 = some ⟨.struct [(0, 1), (1, 1)], 2, 32, [.nilsl, .bool false]⟩ := by kernel_rfl
theorem td158 : tdOf Tryz.prog 158 = some (.struct [(0, 1), (1, 1)]) := by kernel_rfl
theorem ti158 : tiOf Tryz.prog 158 = some ⟨.struct [(0, 1), (1, 1)], 2, 32, [.int .i64 0, .nilsl]⟩ := by kernel_rfl
theorem td159 : tdOf Tryz.prog 159 = some (.other) := by kernel_rfl
theorem ti159 : tiOf Tryz.prog 159 = some ⟨.other, 1, 8, [.nilfunc]⟩ := by kernel_rfl
theorem td163 : tdOf Tryz.prog 163 = some (.other) := by kernel_rfl
theorem ti163 : tiOf Tryz.prog 163 = some ⟨.other, 1, 8, [.nilfunc]⟩ := by kernel_rfl
theorem td164 : tdOf Tryz.prog 164 = some (.other) := by kernel_rfl
theorem ti164 : tiOf Tryz.prog 164 = some ⟨.other, 1, 8, [.nilptr]⟩ := by kernel_rfl
theorem td165 : tdOf Tryz.prog 165 = some (.slice 279) := by kernel_rfl
theorem ti165 : tiOf Tryz.prog 165 = some ⟨.slice 279, 1, 24, [.nilsl]⟩ := by kernel_rfl
theorem td166 : tdOf Tryz.prog 166 = some (.slice 177) := by kernel_rfl
theorem ti166 : tiOf Tryz.prog 166 = some ⟨.slice 177, 1, 24, [.nilsl]⟩ := by kernel_rfl
theorem td167 : tdOf Tryz.prog 167 = some (.struct [(0, 4), (4, 1), (5, 1), (6, 1)]) := by kernel_rfl
theorem ti167 : tiOf Tryz.prog 167 = some ⟨.struct [(0, 4), (4, 1), (5, 1), (6, 1)], 7, 168, [.nilsl, .nilsl, .nilsl, .nilsl, .nilsl, .nilsl, .nilsl]⟩ := by kernel_rfl
theorem td168 : tdOf Tryz.prog 168 = some (.struct [(0, 4), (4, 1), (5, 1), (6, 1)]) := by kernel_rfl
theorem ti168 : tiOf Tryz.prog 168 = some ⟨.struct [(0, 4), (4, 1), (5, 1), (6, 1)], 7, 168, [.nilsl, .nilsl, .nilsl, .nilsl, .nilsl, .nilsl, .nilsl]⟩ := by kernel_rfl
theorem td169 : tdOf Tryz.prog 169 = some (.other) := by kernel_rfl
theorem ti169 : tiOf Tryz.prog 169 = some ⟨.other, 1, 8, [.nilfunc]⟩ := by kernel_rfl
theorem td171 : tdOf Tryz.prog 171 = some (.other) := by kernel_rfl
theorem ti171 : tiOf Tryz.prog 171 = some ⟨.other, 1, 8, [.nilfunc]⟩ := by kernel_rfl
theorem td173 : tdOf Tryz.prog 173 = some (.other) := by kernel_rfl
theorem ti173 : tiOf Tryz.prog 173 = some ⟨.other, 1, 8, [.nilfunc]⟩ := by kernel_rfl
theorem td174 : tdOf Tryz.prog 174 = some (.other) := by kernel_rfl
theorem ti174 : tiOf Tryz.prog 174 = some ⟨.other, 1, 8, [.nilfunc]⟩ := by kernel_rfl
theorem td175 : tdOf Tryz.prog 175 = some (.slice 203) := by kernel_rfl
theorem ti175 : tiOf Tryz.prog 175 = some ⟨.slice 203, 1, 24, [.nilsl]⟩ := by kernel_rfl
theorem td176 : tdOf Tryz.prog 176 = some (.struct [(0, 1), (1, 1)]) := by kernel_rfl
theorem ti176 : tiOf Tryz.prog 176 = some ⟨.struct [(0, 1), (1, 1)], 2, 48, [.nilsl, .nilsl]⟩ := by kernel_rfl
theorem td177 : tdOf Tryz.prog 177 = some (.struct [(0, 1), (1, 1)]) := by kernel_rfl
theorem ti177 : tiOf Tryz.prog 177 = some ⟨.struct [(0, 1), (1, 1)], 2, 48, [.nilsl, .nilsl]⟩ := by kernel_rfl
theorem td178 : tdOf Tryz.prog 178 = some (.struct [(0, 1), (1, 1)]) := by kernel_rfl
theorem ti178 : tiOf Tryz.prog 178 = some ⟨.struct [(0, 1), (1, 1)], 2, 2, [.int .u8 0, .bool false]⟩ := by kernel_rfl
theorem td179 : tdOf Tryz.prog 179 = some (.struct [(0, 1), (1, 1)]) := by kernel_rfl
theorem ti179 : tiOf Tryz.prog 179 = some ⟨.struct [(0, 1), (1, 1)], 2, 2, [.int .u8 0, .bool false]⟩ := by kernel_rfl
theorem td180 : tdOf Tryz.prog 180 = some (.struct [(0, 1), (1, 1)]) := by kernel_rfl
theorem ti180 : tiOf Tryz.prog 180 = some ⟨.struct [(0, 1), (1, 1)], 2, 2, [.int .u8 0, .bool false]⟩ := by kernel_rfl
theorem td181 : tdOf Tryz.prog 181 = some (.other) := by kernel_rfl
theorem ti181 : tiOf Tryz.prog 181 = some ⟨.other, 1, 8, [.nilfunc]⟩ := by kernel_rfl
theorem td182 : tdOf Tryz.prog 182 = some (.other) := by kernel_rfl
theorem ti182 : tiOf Tryz.prog 182 = some ⟨.other, 1, 8, [.nilptr]⟩ := by kernel_rfl
theorem td183 : tdOf Tryz.prog 183 = some (.slice 297) := by kernel_rfl
theorem ti183 : tiOf Tryz.prog 183 = some ⟨.slice 297, 1, 24, [.nilsl]⟩ := by kernel_rfl
theorem td184 : tdOf Tryz.prog 184 = some (.slice 193) := by kernel_rfl
theorem ti184 : tiOf Tryz.prog 184 = some ⟨.slice 193, 1, 24, [.nilsl]⟩ := by kernel_rfl
theorem td185 : tdOf Tryz.prog 185 = some (.struct [(0, 1), (1, 1), (2, 1), (3, 1)]) := by kernel_rfl
theorem ti185 : tiOf Tryz.prog 185 = some ⟨.struct [(0, 1), (1, 1), (2, 1), (3, 1)], 4, 96, [.nilsl, .nilsl, .nilsl, .nilsl]⟩ := by kernel_rfl
theorem td186 : tdOf Tryz.prog 186 = some (.struct [(0, 1), (1, 1), (2, 1), (3, 1)]) := by kernel_rfl
theorem ti186 : tiOf Tryz.prog 186 = some ⟨.struct [(0, 1), (1, 1), (2, 1), (3, 1)], 4, 96, [.nilsl, .nilsl, .nilsl, .nilsl]⟩ := by kernel_rfl
theorem td188 : tdOf Tryz.prog 188 = some (.other) := by kernel_rfl
theorem ti188 : tiOf Tryz.prog 188 = some ⟨.other, 1, 8, [.nilfunc]⟩ := by kernel_rfl
theorem td190 : tdOf Tryz.prog 190 = some (.other) := by kernel_rfl
theorem ti190 : tiOf Tryz.prog 190 = some ⟨.other, 1, 8, [.nilfunc]⟩ := by kernel_rfl
theorem td191 : tdOf Tryz.prog 191 = some (.slice 289) := by kernel_rfl
theorem ti191 : tiOf Tryz.prog 191 = some ⟨.slice 289, 1, 24, [.nilsl]⟩ := by kernel_rfl
theorem td192 : tdOf Tryz.prog 192 = some (.struct [(0, 1), (1, 1)]) := by kernel_rfl
theorem ti192 : tiOf Tryz.prog 192 = some ⟨.struct [(0, 1), (1, 1)], 2, 48, [.nilsl, .nilsl]⟩ := by kernel_rfl
theorem td193 : tdOf Tryz.prog 193 = some (.struct [(0, 1), (1, 1)]) := by kernel_rfl
theorem ti193 : tiOf Tryz.prog 193 = some ⟨.struct [(0, 1), (1, 1)], 2, 48, [.nilsl, .nilsl]⟩ := by kernel_rfl
theorem td194 : tdOf Tryz.prog 194 = some (.other) := by kernel_rfl
theorem ti194 : tiOf Tryz.prog 194 = some ⟨.other, 1, 8, [.nilfunc]⟩ := by kernel_rfl
theorem td195 : tdOf Tryz.prog 195 = some (.other) := by kernel_rfl
theorem ti195 : tiOf Tryz.prog 195 = some ⟨.other, 1, 8, [.nilfunc]⟩ := by kernel_rfl
theorem td196 : tdOf Tryz.prog 196 = some (.other) := by kernel_rfl
theorem ti196 : tiOf Tryz.prog 196 = some ⟨.other, 1, 8, [.nilfunc]⟩ := by kernel_rfl
theorem td197 : tdOf Tryz.prog 197 = some (.other) := by kernel_rfl
theorem ti197 : tiOf Tryz.prog 197 = some ⟨.other, 1, 8, [.nilfunc]⟩ := by kernel_rfl
theorem td198 : tdOf Tryz.prog 198 = some (.other) := by kernel_rfl
theorem ti198 : tiOf Tryz.prog 198 = some ⟨.other, 1, 8, [.nilfunc]⟩ := by kernel_rfl
theorem td199 : tdOf Tryz.prog 199 = some (.other) := by kernel_rfl
theorem ti199 : tiOf Tryz.prog 199 = some ⟨.other, 1, 8, [.nilfunc]⟩ := by kernel_rfl
theorem td200 : tdOf Tryz.prog 200 = some (.other) := by kernel_rfl
theorem ti200 : tiOf Tryz.prog 200 = some ⟨.other, 1, 8, [.nilfunc]⟩ := by kernel_rfl
theorem td201 : tdOf Tryz.prog 201 = some (.other) := by kernel_rfl
theorem ti201 : tiOf Tryz.prog 201 = some ⟨.other, 1, 8, [.nilfunc]⟩ := by kernel_rfl
theorem td202 : tdOf Tryz.prog 202 = some (.struct [(0, 1), (1, 1), (2, 1), (3, 1)]) := by kernel_rfl
theorem ti202 : tiOf Tryz.prog 202 = some ⟨.struct [(0, 1), (1, 1), (2, 1), (3, 1)], 4, 48, [.int .i64 0, .nilsl, .int .i64 0, .bool false]⟩ := by kernel_rfl
theorem td203 : tdOf Tryz.prog 203 = some (.struct [(0, 1), (1, 1), (2, 1), (3, 1)]) := by kernel_rfl
theorem ti203 : tiOf Tryz.prog 203 = some ⟨.struct [(0, 1), (1, 1), (2, 1), (3, 1)], 4, 48, [.int .i64 0, .nilsl, .int .i64 0, .bool false]⟩ := by kernel_rfl
theorem td205 : tdOf Tryz.prog 205 = some (.other) := by kernel_rfl
theorem ti205 : tiOf Tryz.prog 205 = some ⟨.other, 1, 8, [.nilfunc]⟩ := by kernel_rfl
theorem td206 : tdOf Tryz.prog 206 = some (.other) := by kernel_rfl
theorem ti206 : tiOf Tryz.prog 206 = some ⟨.other, 1, 8, [.nilptr]⟩ := by kernel_rfl
theorem td207 : tdOf Tryz.prog 207 = some (.struct [(0, 1), (1, 1), (2, 1)]) := by kernel_rfl
theorem ti207 : tiOf Tryz.prog 207 = some ⟨.struct [(0, 1), (1, 1), (2, 1)], 3, 40, [.nilsl, .int .i64 0, .int .i64 0]⟩ := by kernel_rfl
theorem td208 : tdOf Tryz.prog 208 = some (.struct [(0, 1), (1, 1), (2, 1)]) := by kernel_rfl
theorem ti208 : tiOf Tryz.prog 208 = some ⟨.struct [(0, 1), (1, 1), (2, 1)], 3, 40, [.nilsl, .int .i64 0, .int .i64 0]⟩ := by kernel_rfl
theorem td209 : tdOf Tryz.prog 209 = some (.other) := by kernel_rfl
theorem ti209 : tiOf Tryz.prog 209 = some ⟨.other, 1, 8, [.nilfunc]⟩ := by kernel_rfl
theorem td210 : tdOf Tryz.prog 210 = some (.other) := by kernel_rfl
theorem ti210 : tiOf Tryz.prog 210 = some ⟨.other, 1, 8, [.nilfunc]⟩ := by kernel_rfl
theorem td211 : tdOf Tryz.prog 211 = some (.other) := by kernel_rfl
theorem ti211 : tiOf Tryz.prog 211 = some ⟨.other, 1, 8, [.nilfunc]⟩ := by kernel_rfl
theorem td212 : tdOf Tryz.prog 212 = some (.int .u32) := by kernel_rfl
theorem ti212 : tiOf Tryz.prog 212 = some ⟨.int .u32, 1, 4, [.int .u32 0]⟩ := by kernel_rfl
theorem td213 : tdOf Tryz.prog 213 = some (.other) := by kernel_rfl
theorem ti213 : tiOf Tryz.prog 213 = some ⟨.other, 1, 8, [.nilfunc]⟩ := by kernel_rfl
theorem td214 : tdOf Tryz.prog 214 = some (.other) := by kernel_rfl
theorem ti214 : tiOf Tryz.prog 214 = some ⟨.other, 1, 8, [.nilfunc]⟩ := by kernel_rfl
theorem td215 : tdOf Tryz.prog 215 = some (.other) := by kernel_rfl
theorem ti215 : tiOf Tryz.prog 215 = some ⟨.other, 1, 8, [.nilfunc]⟩ := by kernel_rfl
theorem td216 : tdOf Tryz.prog 216 = some (.other) := by kernel_rfl
theorem ti216 : tiOf Tryz.prog 216 = some ⟨.other, 1, 8, [.nilfunc]⟩ := by kernel_rfl
theorem td217 : tdOf Tryz.prog 217 = some (.other) := by kernel_rfl
theorem ti217 : tiOf Tryz.prog 217 = some ⟨.other, 1, 8, [.nilfunc]⟩ := by kernel_rfl
theorem td218 : tdOf Tryz.prog 218 = some (.other) := by kernel_rfl
theorem ti218 : tiOf Tryz.prog 218 = some ⟨.other, 1, 8, [.nilfunc]⟩ := by kernel_rfl
theorem td219 : tdOf Tryz.prog 219 = some (.other) := by kernel_rfl
theorem ti219 : tiOf Tryz.prog 219 = some ⟨.other, 1, 8, [.nilfunc]⟩ := by kernel_rfl
theorem td220 : tdOf Tryz.prog 220 = some (.other) := by kernel_rfl
theorem ti220 : tiOf Tryz.prog 220 = some ⟨.other, 1, 8, [.nilfunc]⟩ := by kernel_rfl
theorem td221 : tdOf Tryz.prog 221 = some (.other) := by kernel_rfl
theorem ti221 : tiOf Tryz.prog 221 = some ⟨.other, 1, 8, [.nilfunc]⟩ := by kernel_rfl
theorem td222 : tdOf Tryz.prog 222 = some (.other) := by kernel_rfl
theorem ti222 : tiOf Tryz.prog 222 = some ⟨.other, 1, 8, [.nilfunc]⟩ := by kernel_rfl
theorem td223 : tdOf Tryz.prog 223 = some (.other) := by kernel_rfl
theorem ti223 : tiOf Tryz.prog 223 = some ⟨.other, 1, 8, [.nilfunc]⟩ := by kernel_rfl
theorem td224 : tdOf Tryz.prog 224 = some (.other) := by kernel_rfl
theorem ti224 : tiOf Tryz.prog 224 = some ⟨.other, 1, 8, [.nilfunc]⟩ := by kernel_rfl
theorem td225 : tdOf Tryz.prog 225 = some (.other) := by kernel_rfl
theorem ti225 : tiOf Tryz.prog 225 = some ⟨.other, 1, 8, [.nilfunc]⟩ := by kernel_rfl
theorem td226 : tdOf Tryz.prog 226 = some (.other) := by kernel_rfl
theorem ti226 : tiOf Tryz.prog 226 = some ⟨.other, 1, 8, [.nilfunc]⟩ := by kernel_rfl
theorem td227 : tdOf Tryz.prog 227 = some (.other) := by kernel_rfl
theorem ti227 : tiOf Tryz.prog 227 = some ⟨.other, 1, 8, [.nilfunc]⟩ := by kernel_rfl
theorem td228 : tdOf Tryz.prog 228 = some (.other) := by kernel_rfl
theorem ti228 : tiOf Tryz.prog 228 = some ⟨.other, 1, 8, [.nilfunc]⟩ := by kernel_rfl
theorem td229 : tdOf Tryz.prog 229 = some (.other) := by kernel_rfl
theorem ti229 : tiOf Tryz.prog 229 = some ⟨.other, 1, 8, [.nilfunc]⟩ := by kernel_rfl
theorem td230 : tdOf Tryz.prog 230 = some (.other) := by kernel_rfl
theorem ti230 : tiOf Tryz.prog 230 = some ⟨.other, 1, 8, [.nilfunc]⟩ := by kernel_rfl
theorem td231 : tdOf Tryz.prog 231 = some (.other) := by kernel_rfl
theorem ti231 : tiOf Tryz.prog 231 = some ⟨.other, 1, 8, [.nilfunc]⟩ := by kernel_rfl
theorem td232 : tdOf Tryz.prog 232 = some (.other) := by kernel_rfl
theorem ti232 : tiOf Tryz.prog 232 = some ⟨.other, 1, 8, [.nilfunc]⟩ := by kernel_rfl
theorem td233 : tdOf Tryz.prog 233 = some (.other) := by kernel_rfl
theorem ti233 : tiOf Tryz.prog 233 = some ⟨.other, 1, 8, [.nilfunc]⟩ := by kernel_rfl
theorem td234 : tdOf Tryz.prog 234 = some (.other) := by kernel_rfl
theorem ti234 : tiOf Tryz.prog 234 = some ⟨.other, 1, 8, [.nilfunc]⟩ := by kernel_rfl
theorem td235 : tdOf Tryz.prog 235 = some (.other) := by kernel_rfl
theorem ti235 : tiOf Tryz.prog 235 = some ⟨.other, 1, 8, [.nilfunc]⟩ := by kernel_rfl
theorem td236 : tdOf Tryz.prog 236 = some (.other) := by kernel_rfl
theorem ti236 : tiOf Tryz.prog 236 = some ⟨.other, 1, 8, [.nilfunc]⟩ := by kernel_rfl
theorem td237 : tdOf Tryz.prog 237 = some (.other) := by kernel_rfl
theorem ti237 : tiOf Tryz.prog 237 = some ⟨.other, 1, 8, [.nilfunc]⟩ := by kernel_rfl
theorem td238 : tdOf Tryz.prog 238 = some (.other) := by kernel_rfl
theorem ti238 : tiOf Tryz.prog 238 = some ⟨.other, 1, 8, [.nilfunc]⟩ := by kernel_rfl
theorem td239 : tdOf Tryz.prog 239 = some (.other) := by kernel_rfl
theorem ti239 : tiOf Tryz.prog 239 = some ⟨.other, 1, 8, [.nilfunc]⟩ := by kernel_rfl
theorem td240 : tdOf Tryz.prog 240 = some (.other) := by kernel_rfl
theorem ti240 : tiOf Tryz.prog 240 = some ⟨.other, 1, 8, [.nilfunc]⟩ := by kernel_rfl
theorem td241 : tdOf Tryz.prog 241 = some (.other) := by kernel_rfl
theorem ti241 : tiOf Tryz.prog 241 = some ⟨.other, 1, 8, [.nilfunc]⟩ := by kernel_rfl
theorem td242 : tdOf Tryz.prog 242 = some (.other) := by kernel_rfl
theorem ti242 : tiOf Tryz.prog 242 = some ⟨.other, 1, 8, [.nilfunc]⟩ := by kernel_rfl
theorem td243 : tdOf Tryz.prog 243 = some (.other) := by kernel_rfl
theorem ti243 : tiOf Tryz.prog 243 = some ⟨.other, 1, 8, [.nilfunc]⟩ := by kernel_rfl
theorem td244 : tdOf Tryz.prog 244 = some (.other) := by kernel_rfl
theorem ti244 : tiOf Tryz.prog 244 = some ⟨.other, 1, 8, [.nilfunc]⟩ := by kernel_rfl
theorem td245 : tdOf Tryz.prog 245 = some (.other) := by kernel_rfl
theorem ti245 : tiOf Tryz.prog 245 = some ⟨.other, 1, 8, [.nilfunc]⟩ := by kernel_rfl
theorem td246 : tdOf Tryz.prog 246 = some (.other) := by kernel_rfl
theorem ti246 : tiOf Tryz.prog 246 = some ⟨.other, 1, 8, [.nilfunc]⟩ := by kernel_rfl
theorem td247 : tdOf Tryz.prog 247 = some (.other) := by kernel_rfl
theorem ti247 : tiOf Tryz.prog 247 = some ⟨.other, 1, 8, [.nilfunc]⟩ := by kernel_rfl
theorem td248 : tdOf Tryz.prog 248 = some (.other) := by kernel_rfl
theorem ti248 : tiOf Tryz.prog 248 = some ⟨.other, 1, 8, [.nilfunc]⟩ := by kernel_rfl
theorem td249 : tdOf Tryz.prog 249 = some (.other) := by kernel_rfl
theorem ti249 : tiOf Tryz.prog 249 = some ⟨.other, 1, 8, [.nilfunc]⟩ := by kernel_rfl
theorem td250 : tdOf Tryz.prog 250 = some (.other) := by kernel_rfl
theorem ti250 : tiOf Tryz.prog 250 = some ⟨.other, 1, 8, [.nilfunc]⟩ := by kernel_rfl
theorem td251 : tdOf Tryz.prog 251 = some (.other) := by kernel_rfl
theorem ti251 : tiOf Tryz.prog 251 = some ⟨.other, 1, 8, [.nilfunc]⟩ := by kernel_rfl
theorem td252 : tdOf Tryz.prog 252 = some (.other) := by kernel_rfl
theorem ti252 : tiOf Tryz.prog 252 = some ⟨.other, 1, 8, [.nilfunc]⟩ := by kernel_rfl
theorem td253 : tdOf Tryz.prog 253 = some (.other) := by kernel_rfl
theorem ti253 : tiOf Tryz.prog 253 = some ⟨.other, 1, 8, [.nilfunc]⟩ := by kernel_rfl
theorem td254 : tdOf Tryz.prog 254 = some (.other) := by kernel_rfl
theorem ti254 : tiOf Tryz.prog 254 = some ⟨.other, 1, 8, [.nilfunc]⟩ := by kernel_rfl
theorem td255 : tdOf Tryz.prog 255 = some (.other) := by kernel_rfl
theorem ti255 : tiOf Tryz.prog 255 = some ⟨.other, 1, 8, [.nilfunc]⟩ := by kernel_rfl
theorem td257 : tdOf Tryz.prog 257 = some (.other) := by kernel_rfl
theorem ti257 : tiOf Tryz.prog 257 = some ⟨.other, 1, 8, [.nilfunc]⟩ := by kernel_rfl
theorem td259 : tdOf Tryz.prog 259 = some (.other) := by kernel_rfl
theorem ti259 : tiOf Tryz.prog 259 = some ⟨.other, 1, 8, [.nilfunc]⟩ := by kernel_rfl
theorem td260 : tdOf Tryz.prog 260 = some (.other) := by kernel_rfl
theorem ti260 : tiOf Tryz.prog 260 = some ⟨.other, 1, 8, [.nilfunc]⟩ := by kernel_rfl
theorem td261 : tdOf Tryz.prog 261 = some (.int .u64) := by kernel_rfl
theorem ti261 : tiOf Tryz.prog 261 = some ⟨.int .u64, 1, 8, [.int .u64 0]⟩ := by kernel_rfl
theorem td262 : tdOf Tryz.prog 262 = some (.other) := by kernel_rfl
theorem ti262 : tiOf Tryz.prog 262 = some ⟨.other, 1, 8, [.nilfunc]⟩ := by kernel_rfl
theorem td263 : tdOf Tryz.prog 263 = some (.other) := by kernel_rfl
theorem ti263 : tiOf Tryz.prog 263 = some ⟨.other, 1, 8, [.nilfunc]⟩ := by kernel_rfl
theorem td264 : tdOf Tryz.prog 264 = some (.other) := by kernel_rfl
theorem ti264 : tiOf Tryz.prog 264 = some ⟨.other, 1, 8, [.nilfunc]⟩ := by kernel_rfl
theorem td265 : tdOf Tryz.prog 265 = some (.other) := by kernel_rfl
theorem ti265 : tiOf Tryz.prog 265 = some ⟨.other, 1, 8, [.nilfunc]⟩ := by kernel_rfl
theorem td266 : tdOf Tryz.prog 266 = some (.other) := by kernel_rfl
theorem ti266 : tiOf Tryz.prog 266 = some ⟨.other, 1, 8, [.nilfunc]⟩ := by kernel_rfl
theorem td267 : tdOf Tryz.prog 267 = some (.other) := by kernel_rfl
theorem ti267 : tiOf Tryz.prog 267 = some ⟨.other, 1, 8, [.nilfunc]⟩ := by kernel_rfl
theorem td268 : tdOf Tryz.prog 268 = some (.other) := by kernel_rfl
theorem ti268 : tiOf Tryz.prog 268 = some ⟨.other, 1, 8, [.nilfunc]⟩ := by kernel_rfl
theorem td269 : tdOf Tryz.prog 269 = some (.other) := by kernel_rfl
theorem ti269 : tiOf Tryz.prog 269 = some ⟨.other, 1, 8, [.nilptr]⟩ := by kernel_rfl
theorem td270 : tdOf Tryz.prog 270 = some (.slice 274) := by kernel_rfl
theorem ti270 : tiOf Tryz.prog 270 = some ⟨.slice 274, 1, 24, [.nilsl]⟩ := by kernel_rfl
theorem td271 : tdOf Tryz.prog 271 = some (.struct [(0, 1)]) := by kernel_rfl
theorem ti271 : tiOf Tryz.prog 271 = some ⟨.struct [(0, 1)], 1, 24, [.nilsl]⟩ := by kernel_rfl
theorem td272 : tdOf Tryz.prog 272 = some (.struct [(0, 1)]) := by kernel_rfl
theorem ti272 : tiOf Tryz.prog 272 = some ⟨.struct [(0, 1)], 1, 24, [.nilsl]⟩ := by kernel_rfl
theorem td273 : tdOf Tryz.prog 273 = some (.struct [(0, 1), (1, 1)]) := by kernel_rfl
theorem ti273 : tiOf Tryz.prog 273 = some ⟨.struct [(0, 1), (1, 1)], 2, 16, [.int .i64 0, .int .i64 0]⟩ := by kernel_rfl
theorem td274 : tdOf Tryz.prog 274 = some (.struct [(0, 1), (1, 1)]) := by kernel_rfl
theorem ti274 : tiOf Tryz.prog 274 = some ⟨.struct [(0, 1), (1, 1)], 2, 16, [.int .i64 0, .int .i64 0]⟩ := by kernel_rfl
theorem td276 : tdOf Tryz.prog 276 = some (.other) := by kernel_rfl
theorem ti276 : tiOf Tryz.prog 276 = some ⟨.other, 1, 8, [.nilfunc]⟩ := by kernel_rfl
theorem td277 : tdOf Tryz.prog 277 = some (.other) := by kernel_rfl
theorem ti277 : tiOf Tryz.prog 277 = some ⟨.other, 1, 8, [.nilfunc]⟩ := by kernel_rfl
theorem td278 : tdOf Tryz.prog 278 = some (.struct [(0, 1), (1, 1)]) := by kernel_rfl
theorem ti278 : tiOf Tryz.prog 278 = some ⟨.struct [(0, 1), (1, 1)], 2, 16, [.int .i64 0, .int .i64 0]⟩ := by kernel_rfl
theorem td279 : tdOf Tryz.prog 279 = some (.struct [(0, 1), (1, 1)]) := by kernel_rfl
theorem ti279 : tiOf Tryz.prog 279 = some ⟨.struct [(0, 1), (1, 1)], 2, 16, [.int .i64 0, .int .i64 0]⟩ := by kernel_rfl
theorem td280 : tdOf Tryz.prog 280 = some (.other) := by kernel_rfl
theorem ti280 : tiOf Tryz.prog 280 = some ⟨.other, 1, 8, [.nilfunc]⟩ := by kernel_rfl
theorem td281 : tdOf Tryz.prog 281 = some (.other) := by kernel_rfl
theorem ti281 : tiOf Tryz.prog 281 = some ⟨.other, 1, 8, [.nilfunc]⟩ := by kernel_rfl
theorem td282 : tdOf Tryz.prog 282 = some (.other) := by kernel_rfl
theorem ti282 : tiOf Tryz.prog 282 = some ⟨.other, 1, 8, [.nilfunc]⟩ := by kernel_rfl
theorem td284 : tdOf Tryz.prog 284 = some (.other) := by kernel_rfl
theorem ti284 : tiOf Tryz.prog 284 = some ⟨.other, 1, 8, [.nilfunc]⟩ := by kernel_rfl
theorem td285 : tdOf Tryz.prog 285 = some (.other) := by kernel_rfl
theorem ti285 : tiOf Tryz.prog 285 = some ⟨.other, 1, 8, [.nilfunc]⟩ := by kernel_rfl
theorem td286 : tdOf Tryz.prog 286 = some (.other) := by kernel_rfl
theorem ti286 : tiOf Tryz.prog 286 = some ⟨.other, 1, 8, [.nilfunc]⟩ := by kernel_rfl
theorem td287 : tdOf Tryz.prog 287 = some (.other) := by kernel_rfl
theorem ti287 : tiOf Tryz.prog 287 = some ⟨.other, 1, 8, [.nilfunc]⟩ := by kernel_rfl
theorem td288 : tdOf Tryz.prog 288 = some (.other) := by kernel_rfl
theorem ti288 : tiOf Tryz.prog 288 = some ⟨.other, 1, 8, [.nilfunc]⟩ := by kernel_rfl
theorem td289 : tdOf Tryz.prog 289 = some (.struct [(0, 1), (1, 1), (2, 1), (3, 1)]) := by kernel_rfl
theorem ti289 : tiOf Tryz.prog 289 = some ⟨.struct [(0, 1), (1, 1), (2, 1), (3, 1)], 4, 48, [.int .i64 0, .nilsl, .int .i64 0, .bool false]⟩ := by kernel_rfl
theorem td291 : tdOf Tryz.prog 291 = some (.other) := by kernel_rfl
theorem ti291 : tiOf Tryz.prog 291 = some ⟨.other, 1, 8, [.nilfunc]⟩ := by kernel_rfl
theorem td292 : tdOf Tryz.prog 292 = some (.other) := by kernel_rfl
theorem ti292 : tiOf Tryz.prog 292 = some ⟨.other, 1, 8, [.nilptr]⟩ := by kernel_rfl
theorem td293 : tdOf Tryz.prog 293 = some (.struct [(0, 1), (1, 1), (2, 1)]) := by kernel_rfl
theorem ti293 : tiOf Tryz.prog 293 = some ⟨.struct [(0, 1), (1, 1), (2, 1)], 3, 40, [.nilsl, .int .i64 0, .int .i64 0]⟩ := by kernel_rfl
theorem td294 : tdOf Tryz.prog 294 = some (.struct [(0, 1), (1, 1), (2, 1)]) := by kernel_rfl
theorem ti294 : tiOf Tryz.prog 294 = some ⟨.struct [(0, 1), (1, 1), (2, 1)], 3, 40, [.nilsl, .int .i64 0, .int .i64 0]⟩ := by kernel_rfl
theorem td295 : tdOf Tryz.prog 295 = some (.other) := by kernel_rfl
theorem ti295 : tiOf Tryz.prog 295 = some ⟨.other, 1, 8, [.nilfunc]⟩ := by kernel_rfl
theorem td296 : tdOf Tryz.prog 296 = some (.slice 4) := by kernel_rfl
theorem ti296 : tiOf Tryz.prog 296 = some ⟨.slice 4, 1, 24, [.nilsl]⟩ := by kernel_rfl
theorem td297 : tdOf Tryz.prog 297 = some (.struct [(0, 1), (1, 1)]) := by kernel_rfl
theorem ti297 : tiOf Tryz.prog 297 = some ⟨.struct [(0, 1), (1, 1)], 2, 16, [.int .i64 0, .int .i64 0]⟩ := by kernel_rfl
theorem td299 : tdOf Tryz.prog 299 = some (.other) := by kernel_rfl
theorem ti299 : tiOf Tryz.prog 299 = some ⟨.other, 1, 8, [.nilfunc]⟩ := by kernel_rfl
theorem td301 : tdOf Tryz.prog 301 = some (.other) := by kernel_rfl
theorem ti301 : tiOf Tryz.prog 301 = some ⟨.other, 1, 8, [.nilfunc]⟩ := by kernel_rfl
theorem td302 : tdOf Tryz.prog 302 = some (.other) := by kernel_rfl
theorem ti302 : tiOf Tryz.prog 302 = some ⟨.other, 1, 8, [.nilfunc]⟩ := by kernel_rfl
theorem td303 : tdOf Tryz.prog 303 = some (.other) := by kernel_rfl
theorem ti303 : tiOf Tryz.prog 303 = some ⟨.other, 1, 8, [.nilfunc]⟩ := by kernel_rfl
theorem td304 : tdOf Tryz.prog 304 = some (.other) := by kernel_rfl
theorem ti304 : tiOf Tryz.prog 304 = some ⟨.other, 1, 8, [.nilfunc]⟩ := by kernel_rfl
theorem td305 : tdOf Tryz.prog 305 = some (.other) := by kernel_rfl
theorem ti305 : tiOf Tryz.prog 305 = some ⟨.other, 1, 8, [.nilptr]⟩ := by kernel_rfl
theorem td306 : tdOf Tryz.prog 306 = some (.int .u64) := by kernel_rfl
theorem ti306 : tiOf Tryz.prog 306 = some ⟨.int .u64, 1, 8, [.int .u64 0]⟩ := by kernel_rfl
theorem td307 : tdOf Tryz.prog 307 = some (.struct [(0, 1), (1, 1), (2, 1)]) := by kernel_rfl
theorem ti307 : tiOf Tryz.prog 307 = some ⟨.struct [(0, 1), (1, 1), (2, 1)], 3, 24, [.nilptr, .nilptr, .int .u64 0]⟩ := by kernel_rfl
theorem td308 : tdOf Tryz.prog 308 = some (.struct [(0, 1), (1, 1), (2, 1)]) := by kernel_rfl
theorem ti308 : tiOf Tryz.prog 308 = some ⟨.struct [(0, 1), (1, 1), (2, 1)], 3, 24, [.nilptr, .nilptr, .int .u64 0]⟩ := by kernel_rfl
theorem td309 : tdOf Tryz.prog 309 = some (.other) := by kernel_rfl
theorem ti309 : tiOf Tryz.prog 309 = some ⟨.other, 1, 8, [.nilfunc]⟩ := by kernel_rfl
theorem td310 : tdOf Tryz.prog 310 = some (.other) := by kernel_rfl
theorem ti310 : tiOf Tryz.prog 310 = some ⟨.other, 1, 8, [.nilfunc]⟩ := by kernel_rfl
theorem td311 : tdOf Tryz.prog 311 = some (.other) := by kernel_rfl
theorem ti311 : tiOf Tryz.prog 311 = some ⟨.other, 1, 8, [.nilfunc]⟩ := by kernel_rfl
theorem td312 : tdOf Tryz.prog 312 = some (.struct [(0, 1), (1, 1)]) := by kernel_rfl
theorem ti312 : tiOf Tryz.prog 312 = some ⟨.struct [(0, 1), (1, 1)], 2, 16, [.nilfunc, .nilfunc]⟩ := by kernel_rfl
theorem td313 : tdOf Tryz.prog 313 = some (.struct [(0, 1), (1, 1)]) := by kernel_rfl
theorem ti313 : tiOf Tryz.prog 313 = some ⟨.struct [(0, 1), (1, 1)], 2, 16, [.nilfunc, .nilfunc]⟩ := by kernel_rfl
theorem td314 : tdOf Tryz.prog 314 = some (.other) := by kernel_rfl
theorem ti314 : tiOf Tryz.prog 314 = some ⟨.other, 1, 8, [.nilfunc]⟩ := by kernel_rfl
theorem td315 : tdOf Tryz.prog 315 = some (.other) := by kernel_rfl
theorem ti315 : tiOf Tryz.prog 315 = some ⟨.other, 1, 8, [.nilfunc]⟩ := by kernel_rfl
theorem td316 : tdOf Tryz.prog 316 = some (.other) := by kernel_rfl
theorem ti316 : tiOf Tryz.prog 316 = some ⟨.other, 1, 8, [.nilptr]⟩ := by kernel_rfl
theorem td317 : tdOf Tryz.prog 317 = some (.struct [(0, 2), (2, 1)]) := by kernel_rfl
theorem ti317 : tiOf Tryz.prog 317 = some ⟨.struct [(0, 2), (2, 1)], 3, 56, [.nilsl, .nilsl, .nilptr]⟩ := by kernel_rfl
theorem td318 : tdOf Tryz.prog 318 = some (.struct [(0, 2), (2, 1)]) := by kernel_rfl
theorem ti318 : tiOf Tryz.prog 318 = some ⟨.struct [(0, 2), (2, 1)], 3, 56, [.nilsl, .nilsl, .nilptr]⟩ := by kernel_rfl
theorem td320 : tdOf Tryz.prog 320 = some (.other) := by kernel_rfl
theorem ti320 : tiOf Tryz.prog 320 = some ⟨.other, 1, 8, [.nilfunc]⟩ := by kernel_rfl
theorem td321 : tdOf Tryz.prog 321 = some (.struct [(0, 1), (1, 1), (2, 1)]) := by kernel_rfl
theorem ti321 : tiOf Tryz.prog 321 = some ⟨.struct [(0, 1), (1, 1), (2, 1)], 3, 24, [.int .i64 0, .int .i64 0, .int .i64 0]⟩ := by kernel_rfl
theorem td322 : tdOf Tryz.prog 322 = some (.struct [(0, 1), (1, 1), (2, 1)]) := by kernel_rfl
theorem ti322 : tiOf Tryz.prog 322 = some ⟨.struct [(0, 1), (1, 1), (2, 1)], 3, 24, [.int .i64 0, .int .i64 0, .int .i64 0]⟩ := by kernel_rfl
theorem td323 : tdOf Tryz.prog 323 = some (.array 21 322) := by kernel_rfl
theorem ti323 : tiOf Tryz.prog 323 = some ⟨.array 21 322, 63, 504, [.int .i64 0, .int .i64 0, .int .i64 0, .int .i64 0, .int .i64 0, .int .i64 0, .int .i64 0, .int .i64 0, .int .i64 0, .int .i64 0, .int .i64 0, .int .i64 0, .int .i64 0, .int .i64 0, .int .i64 0, .int .i64 0, .int .i64 0, .int .i64 0, .int .i64 0, .int .i64 0, .int .i64 0, .int .i64 0, .int .i64 0, .int .i64 0, .int .i64 0, .int .i64 0, .int .i64 0, .int .i64 0, .int .i64 0, .int .i64 0, .int .i64 0, .int .i64 0, .int .i64 0, .int .i64 0, .int .i64 0, .int .i64 0, .int .i64 0, .int .i64 0, .int .i64 0, .int .i64 0, .int .i64 0, .int .i64 0, .int .i64 0, .int .i64 0, .int .i64 0, .int .i64 0, .int .i64 0, .int .i64 0, .int .i64 0, .int .i64 0, .int .i64 0, .int .i64 0, .int .i64 0, .int .i64 0, .int .i64 0, .int .i64 0, .int .i64 0, .int .i64 0, .int .i64 0, .int .i64 0, .int .i64 0, .int .i64 0, .int .i64 0]⟩ := by kernel_rfl
theorem td325 : tdOf Tryz.prog 325 = some (.other) := by kernel_rfl
theorem ti325 : tiOf Tryz.prog 325 = some ⟨.other, 1, 8, [.nilfunc]⟩ := by kernel_rfl
theorem td328 : tdOf Tryz.prog 328 = some (.other) := by kernel_rfl
theorem ti328 : tiOf Tryz.prog 328 = some ⟨.other, 1, 8, [.nilfunc]⟩ := by kernel_rfl
theorem td330 : tdOf Tryz.prog 330 = some (.other) := by kernel_rfl
theorem ti330 : tiOf Tryz.prog 330 = some ⟨.other, 1, 8, [.nilfunc]⟩ := by kernel_rfl
theorem td331 : tdOf Tryz.prog 331 = some (.other) := by kernel_rfl
theorem ti331 : tiOf Tryz.prog 331 = some ⟨.other, 1, 8, [.nilfunc]⟩ := by kernel_rfl
theorem td332 : tdOf Tryz.prog 332 = some (.other) := by kernel_rfl
theorem ti332 : tiOf Tryz.prog 332 = some ⟨.other, 1, 8, [.nilfunc]⟩ := by kernel_rfl
theorem td333 : tdOf Tryz.prog 333 = some (.other) := by kernel_rfl
theorem ti333 : tiOf Tryz.prog 333 = some ⟨.other, 1, 8, [.nilfunc]⟩ := by kernel_rfl
theorem td334 : tdOf Tryz.prog 334 = some (.other) := by kernel_rfl
theorem ti334 : tiOf Tryz.prog 334 = some ⟨.other, 1, 8, [.nilfunc]⟩ := by kernel_rfl
theorem td335 : tdOf Tryz.prog 335 = some (.other) := by kernel_rfl
theorem ti335 : tiOf Tryz.prog 335 = some ⟨.other, 1, 8, [.nilfunc]⟩ := by kernel_rfl
theorem td336 : tdOf Tryz.prog 336 = some (.other) := by kernel_rfl
theorem ti336 : tiOf Tryz.prog 336 = some ⟨.other, 1, 8, [.nilfunc]⟩ := by kernel_rfl
theorem td337 : tdOf Tryz.prog 337 = some (.other) := by kernel_rfl
theorem ti337 : tiOf Tryz.prog 337 = some ⟨.other, 1, 8, [.nilfunc]⟩ := by kernel_rfl
theorem td339 : tdOf Tryz.prog 339 = some (.other) := by kernel_rfl
theorem ti339 : tiOf Tryz.prog 339 = some ⟨.other, 1, 8, [.nilfunc]⟩ := by kernel_rfl
theorem td340 : tdOf Tryz.prog 340 = some (.other) := by kernel_rfl
theorem ti340 : tiOf Tryz.prog 340 = some ⟨.other, 1, 8, [.nilfunc]⟩ := by kernel_rfl
theorem td341 : tdOf Tryz.prog 341 = some (.other) := by kernel_rfl
theorem ti341 : tiOf Tryz.prog 341 = some ⟨.other, 1, 8, [.nilfunc]⟩ := by kernel_rfl
theorem td342 : tdOf Tryz.prog 342 = some (.other) := by kernel_rfl
theorem ti342 : tiOf Tryz.prog 342 = some ⟨.other, 1, 8, [.nilfunc]⟩ := by kernel_rfl
theorem td343 : tdOf Tryz.prog 343 = some (.slice 22) := by kernel_rfl
theorem ti343 : tiOf Tryz.prog 343 = some ⟨.slice 22, 1, 24, [.nilsl]⟩ := by kernel_rfl
theorem td344 : tdOf Tryz.prog 344 = some (.other) := by kernel_rfl
theorem ti344 : tiOf Tryz.prog 344 = some ⟨.other, 1, 8, [.nilfunc]⟩ := by kernel_rfl
theorem td345 : tdOf Tryz.prog 345 = some (.other) := by kernel_rfl
theorem ti345 : tiOf Tryz.prog 345 = some ⟨.other, 1, 8, [.nilfunc]⟩ := by kernel_rfl
theorem td346 : tdOf Tryz.prog 346 = some (.other) := by kernel_rfl
theorem ti346 : tiOf Tryz.prog 346 = some ⟨.other, 1, 8, [.nilfunc]⟩ := by kernel_rfl
theorem td347 : tdOf Tryz.prog 347 = some (.other) := by kernel_rfl
theorem ti347 : tiOf Tryz.prog 347 = some ⟨.other, 1, 8, [.nilfunc]⟩ := by kernel_rfl
theorem td348 : tdOf Tryz.prog 348 = some (.other) := by kernel_rfl
theorem ti348 : tiOf Tryz.prog 348 = some ⟨.other, 1, 8, [.nilfunc]⟩ := by kernel_rfl
theorem td349 : tdOf Tryz.prog 349 = some (.other) := by kernel_rfl
theorem ti349 : tiOf Tryz.prog 349 = some ⟨.other, 1, 8, [.nilfunc]⟩ := by kernel_rfl
theorem td350 : tdOf Tryz.prog 350 = some (.other) := by kernel_rfl
theorem ti350 : tiOf Tryz.prog 350 = some ⟨.other, 1, 8, [.nilfunc]⟩ := by kernel_rfl
theorem td352 : tdOf Tryz.prog 352 = some (.other) := by kernel_rfl
theorem ti352 : tiOf Tryz.prog 352 = some ⟨.other, 1, 8, [.nilfunc]⟩ := by kernel_rfl
theorem td353 : tdOf Tryz.prog 353 = some (.other) := by kernel_rfl
theorem ti353 : tiOf Tryz.prog 353 = some ⟨.other, 1, 8, [.nilfunc]⟩ := by kernel_rfl
theorem td355 : tdOf Tryz.prog 355 = some (.other) := by kernel_rfl
theorem ti355 : tiOf Tryz.prog 355 = some ⟨.other, 1, 8, [.nilfunc]⟩ := by kernel_rfl
theorem td356 : tdOf Tryz.prog 356 = some (.other) := by kernel_rfl
theorem ti356 : tiOf Tryz.prog 356 = some ⟨.other, 1, 8, [.nilfunc]⟩ := by kernel_rfl
theorem td357 : tdOf Tryz.prog 357 = some (.other) := by kernel_rfl
theorem ti357 : tiOf Tryz.prog 357 = some ⟨.other, 1, 8, [.nilfunc]⟩ := by kernel_rfl
theorem td358 : tdOf Tryz.prog 358 = some (.other) := by kernel_rfl
theorem ti358 : tiOf Tryz.prog 358 = some ⟨.other, 1, 8, [.nilptr]⟩ := by kernel_rfl
theorem td359 : tdOf Tryz.prog 359 = some (.struct [(0, 7), (7, 2), (9, 1)]) := by kernel_rfl
theorem ti359 : tiOf Tryz.prog 359 = some ⟨.struct [(0, 7), (7, 2), (9, 1)], 10, 192, [.nilsl, .nilsl, .int .i64 0, .int .i64 0, .nilsl, .nilsl, .nilsl, .nilsl, .nilsl, .int .i64 0]⟩ := by kernel_rfl
theorem td360 : tdOf Tryz.prog 360 = some (.struct [(0, 7), (7, 2), (9, 1)]) := by kernel_rfl
theorem ti360 : tiOf Tryz.prog 360 = some ⟨.struct [(0, 7), (7, 2), (9, 1)], 10, 192, [.nilsl, .nilsl, .int .i64 0, .int .i64 0, .nilsl, .nilsl, .nilsl, .nilsl, .nilsl, .int .i64 0]⟩ := by kernel_rfl
theorem td361 : tdOf Tryz.prog 361 = some (.other) := by kernel_rfl
theorem ti361 : tiOf Tryz.prog 361 = some ⟨.other, 1, 8, [.nilfunc]⟩ := by kernel_rfl
theorem td362 : tdOf Tryz.prog 362 = some (.other) := by kernel_rfl
theorem ti362 : tiOf Tryz.prog 362 = some ⟨.other, 1, 8, [.nilfunc]⟩ := by kernel_rfl
theorem td363 : tdOf Tryz.prog 363 = some (.other) := by kernel_rfl
theorem ti363 : tiOf Tryz.prog 363 = some ⟨.other, 1, 8, [.nilfunc]⟩ := by kernel_rfl
theorem td364 : tdOf Tryz.prog 364 = some (.other) := by kernel_rfl
theorem ti364 : tiOf Tryz.prog 364 = some ⟨.other, 1, 8, [.nilfunc]⟩ := by kernel_rfl
theorem td365 : tdOf Tryz.prog 365 = some (.other) := by kernel_rfl
theorem ti365 : tiOf Tryz.prog 365 = some ⟨.other, 1, 8, [.nilfunc]⟩ := by kernel_rfl
theorem td366 : tdOf Tryz.prog 366 = some (.other) := by kernel_rfl
theorem ti366 : tiOf Tryz.prog 366 = some ⟨.other, 1, 8, [.nilfunc]⟩ := by kernel_rfl
theorem td367 : tdOf Tryz.prog 367 = some (.other) := by kernel_rfl
theorem ti367 : tiOf Tryz.prog 367 = some ⟨.other, 1, 8, [.nilfunc]⟩ := by kernel_rfl
theorem td368 : tdOf Tryz.prog 368 = some (.other) := by kernel_rfl
theorem ti368 : tiOf Tryz.prog 368 = some ⟨.other, 1, 8, [.nilptr]⟩ := by kernel_rfl
theorem td369 : tdOf Tryz.prog 369 = some (.struct [(0, 2), (2, 1)]) := by kernel_rfl
theorem ti369 : tiOf Tryz.prog 369 = some ⟨.struct [(0, 2), (2, 1)], 3, 56, [.nilsl, .nilsl, .int .i64 0]⟩ := by kernel_rfl
theorem td370 : tdOf Tryz.prog 370 = some (.struct [(0, 2), (2, 1)]) := by kernel_rfl
theorem ti370 : tiOf Tryz.prog 370 = some ⟨.struct [(0, 2), (2, 1)], 3, 56, [.nilsl, .nilsl, .int .i64 0]⟩ := by kernel_rfl
theorem td372 : tdOf Tryz.prog 372 = some (.other) := by kernel_rfl
theorem ti372 : tiOf Tryz.prog 372 = some ⟨.other, 1, 8, [.nilfunc]⟩ := by kernel_rfl
theorem td373 : tdOf Tryz.prog 373 = some (.other) := by kernel_rfl
theorem ti373 : tiOf Tryz.prog 373 = some ⟨.other, 1, 8, [.nilfunc]⟩ := by kernel_rfl
theorem td374 : tdOf Tryz.prog 374 = some (.other) := by kernel_rfl
theorem ti374 : tiOf Tryz.prog 374 = some ⟨.other, 1, 8, [.nilfunc]⟩ := by kernel_rfl
theorem td375 : tdOf Tryz.prog 375 = some (.struct [(0, 1)]) := by kernel_rfl
theorem ti375 : tiOf Tryz.prog 375 = some ⟨.struct [(0, 1)], 1, 8, [.nilptr]⟩ := by kernel_rfl
theorem td376 : tdOf Tryz.prog 376 = some (.struct [(0, 1)]) := by kernel_rfl
theorem ti376 : tiOf Tryz.prog 376 = some ⟨.struct [(0, 1)], 1, 8, [.nilptr]⟩ := by kernel_rfl
theorem td377 : tdOf Tryz.prog 377 = some (.other) := by kernel_rfl
theorem ti377 : tiOf Tryz.prog 377 = some ⟨.other, 1, 8, [.nilptr]⟩ := by kernel_rfl
theorem td378 : tdOf Tryz.prog 378 = some (.other) := by kernel_rfl
theorem ti378 : tiOf Tryz.prog 378 = some ⟨.other, 1, 8, [.nilfunc]⟩ := by kernel_rfl
theorem td379 : tdOf Tryz.prog 379 = some (.other) := by kernel_rfl
theorem ti379 : tiOf Tryz.prog 379 = some ⟨.other, 1, 8, [.nilfunc]⟩ := by kernel_rfl
theorem td380 : tdOf Tryz.prog 380 = some (.other) := by kernel_rfl
theorem ti380 : tiOf Tryz.prog 380 = some ⟨.other, 1, 8, [.nilfunc]⟩ := by kernel_rfl
theorem td381 : tdOf Tryz.prog 381 = some (.other) := by kernel_rfl
theorem ti381 : tiOf Tryz.prog 381 = some ⟨.other, 1, 8, [.nilfunc]⟩ := by kernel_rfl
theorem td382 : tdOf Tryz.prog 382 = some (.other) := by kernel_rfl
theorem ti382 : tiOf Tryz.prog 382 = some ⟨.other, 1, 8, [.nilptr]⟩ := by kernel_rfl
theorem td383 : tdOf Tryz.prog 383 = some (.other) := by kernel_rfl
theorem ti383 : tiOf Tryz.prog 383 = some ⟨.other, 1, 8, [.nilfunc]⟩ := by kernel_rfl
theorem td384 : tdOf Tryz.prog 384 = some (.other) := by kernel_rfl
theorem ti384 : tiOf Tryz.prog 384 = some ⟨.other, 1, 8, [.nilfunc]⟩ := by kernel_rfl
theorem td385 : tdOf Tryz.prog 385 = some (.other) := by kernel_rfl
theorem ti385 : tiOf Tryz.prog 385 = some ⟨.other, 1, 8, [.nilfunc]⟩ := by kernel_rfl
theorem td386 : tdOf Tryz.prog 386 = some (.other) := by kernel_rfl
theorem ti386 : tiOf Tryz.prog 386 = some ⟨.other, 1, 8, [.nilfunc]⟩ := by kernel_rfl
theorem td388 : tdOf Tryz.prog 388 = some (.other) := by kernel_rfl
theorem ti388 : tiOf Tryz.prog 388 = some ⟨.other, 1, 8, [.nilfunc]⟩ := by kernel_rfl
theorem td389 : tdOf Tryz.prog 389 = some (.other) := by kernel_rfl
theorem ti389 : tiOf Tryz.prog 389 = some ⟨.other, 1, 8, [.nilfunc]⟩ := by kernel_rfl
theorem td390 : tdOf Tryz.prog 390 = some (.other) := by kernel_rfl
theorem ti390 : tiOf Tryz.prog 390 = some ⟨.other, 1, 8, [.nilfunc]⟩ := by kernel_rfl
theorem td391 : tdOf Tryz.prog 391 = some (.other) := by kernel_rfl
theorem ti391 : tiOf Tryz.prog 391 = some ⟨.other, 1, 8, [.nilfunc]⟩ := by kernel_rfl
theorem td392 : tdOf Tryz.prog 392 = some (.other) := by kernel_rfl
theorem ti392 : tiOf Tryz.prog 392 = some ⟨.other, 1, 8, [.nilptr]⟩ := by kernel_rfl
theorem td394 : tdOf Tryz.prog 394 = some (.other) := by kernel_rfl
theorem ti394 : tiOf Tryz.prog 394 = some ⟨.other, 1, 8, [.nilfunc]⟩ := by kernel_rfl
theorem td396 : tdOf Tryz.prog 396 = some (.other) := by kernel_rfl
theorem ti396 : tiOf Tryz.prog 396 = some ⟨.other, 1, 8, [.nilfunc]⟩ := by kernel_rfl
theorem td398 : tdOf Tryz.prog 398 = some (.other) := by kernel_rfl
theorem ti398 : tiOf Tryz.prog 398 = some ⟨.other, 1, 8, [.nilfunc]⟩ := by kernel_rfl
theorem td400 : tdOf Tryz.prog 400 = some (.other) := by kernel_rfl
theorem ti400 : tiOf Tryz.prog 400 = some ⟨.other, 1, 8, [.nilfunc]⟩ := by kernel_rfl
theorem td402 : tdOf Tryz.prog 402 = some (.other) := by kernel_rfl
theorem ti402 : tiOf Tryz.prog 402 = some ⟨.other, 1, 8, [.nilfunc]⟩ := by kernel_rfl
theorem td403 : tdOf Tryz.prog 403 = some (.other) := by kernel_rfl
theorem ti403 : tiOf Tryz.prog 403 = some ⟨.other, 1, 8, [.nilfunc]⟩ := by kernel_rfl
theorem td404 : tdOf Tryz.prog 404 = some (.other) := by kernel_rfl
theorem ti404 : tiOf Tryz.prog 404 = some ⟨.other, 1, 8, [.nilfunc]⟩ := by kernel_rfl
theorem td405 : tdOf Tryz.prog 405 = some (.other) := by kernel_rfl
theorem ti405 : tiOf Tryz.prog 405 = some ⟨.other, 1, 8, [.nilfunc]⟩ := by kernel_rfl
theorem td406 : tdOf Tryz.prog 406 = some (.other) := by kernel_rfl
theorem ti406 : tiOf Tryz.prog 406 = some ⟨.other, 1, 8, [.nilfunc]⟩ := by kernel_rfl
theorem td407 : tdOf Tryz.prog 407 = some (.other) := by kernel_rfl
theorem ti407 : tiOf Tryz.prog 407 = some ⟨.other, 1, 8, [.nilfunc]⟩ := by kernel_rfl
theorem td408 : tdOf Tryz.prog 408 = some (.other) := by kernel_rfl
theorem ti408 : tiOf Tryz.prog 408 = some ⟨.other, 1, 8, [.nilfunc]⟩ := by kernel_rfl
theorem td409 : tdOf Tryz.prog 409 = some (.other) := by kernel_rfl
theorem ti409 : tiOf Tryz.prog 409 = some ⟨.other, 1, 8, [.nilfunc]⟩ := by kernel_rfl
theorem td411 : tdOf Tryz.prog 411 = some (.other) := by kernel_rfl
theorem ti411 : tiOf Tryz.prog 411 = some ⟨.other, 1, 8, [.nilfunc]⟩ := by kernel_rfl
theorem td413 : tdOf Tryz.prog 413 = some (.other) := by kernel_rfl
theorem ti413 : tiOf Tryz.prog 413 = some ⟨.other, 1, 8, [.nilfunc]⟩ := by kernel_rfl
theorem td414 : tdOf Tryz.prog 414 = some (.other) := by kernel_rfl
theorem ti414 : tiOf Tryz.prog 414 = some ⟨.other, 1, 8, [.nilfunc]⟩ := by kernel_rfl
theorem td415 : tdOf Tryz.prog 415 = some (.other) := by kernel_rfl
theorem ti415 : tiOf Tryz.prog 415 = some ⟨.other, 1, 8, [.nilfunc]⟩ := by kernel_rfl
theorem td416 : tdOf Tryz.prog 416 = some (.other) := by kernel_rfl
theorem ti416 : tiOf Tryz.prog 416 = some ⟨.other, 1, 8, [.nilfunc]⟩ := by kernel_rfl
theorem td417 : tdOf Tryz.prog 417 = some (.other) := by kernel_rfl
theorem ti417 : tiOf Tryz.prog 417 = some ⟨.other, 1, 8, [.nilfunc]⟩ := by kernel_rfl
theorem td418 : tdOf Tryz.prog 418 = some (.other) := by kernel_rfl
theorem ti418 : tiOf Tryz.prog 418 = some ⟨.other, 1, 8, [.nilfunc]⟩ := by kernel_rfl
theorem td419 : tdOf Tryz.prog 419 = some (.array 256 5) := by kernel_rfl
theorem ti419 : tiOf Tryz.prog 419 = some ⟨.array 256 5, 256, 256, [.int .u8 0, .int .u8 0, .int .u8 0, .int .u8 0, .int .u8 0, .int .u8 0, .int .u8 0, .int .u8 0, .int .u8 0, .int .u8 0, .int .u8 0, .int .u8 0, .int .u8 0, .int .u8 0, .int .u8 0, .int .u8 0, .int .u8 0, .int .u8 0, .int .u8 0, .int .u8 0, .int .u8 0, .int .u8 0, .int .u8 0, .int .u8 0, .int .u8 0, .int .u8 0, .int .u8 0, .int .u8 0, .int .u8 0, .int .u8 0, .int .u8 0, .int .u8 0, .int .u8 0, .int .u8 0, .int .u8 0, .int .u8 0, .int .u8 0, .int .u8 0, .int .u8 0, .int .u8 0, .int .u8 0, .int .u8 0, .int .u8 0, .int .u8 0, .int .u8 0, .int .u8 0, .int .u8 0, .int .u8 0, .int .u8 0, .int .u8 0, .int .u8 0, .int .u8 0, .int .u8 0, .int .u8 0, .int .u8 0, .int .u8 0, .int .u8 0, .int .u8 0, .int .u8 0, .int .u8 0, .int .u8 0, .int .u8 0, .int .u8 0, .int .u8 0, .int .u8 0, .int .u8 0, .int .u8 0, .int .u8 0, .int .u8 0, .int .u8 0, .int .u8 0, .int .u8 0, .int .u8 0, .int .u8 0, .int .u8 0, .int .u8 0, .int .u8 0, .int .u8 0, .int .u8 0, .int .u8 0, .int .u8 0, .int .u8 0, .int .u8 0, .int .u8 0, .int .u8 0, .int .u8 0, .int .u8 0, .int .u8 0, .int .u8 0, .int .u8 0, .int .u8 0, .int .u8 0, .int .u8 0, .int .u8 0, .int .u8 0, .int .u8 0, .int .u8 0, .int .u8 0, .int .u8 0, .int .u8 0, .int .u8 0, .int .u8 0, .int .u8 0, .int .u8 0, .int .u8 0, .int .u8 0, .int .u8 0, .int .u8 0, .int .u8 0, .int .u8 0, .int .u8 0, .int .u8 0, .int .u8 0, .int .u8 0, .int .u8 0, .int .u8 0, .int .u8 0, .int .u8 0, .int .u8 0, .int .u8 0, .int .u8 0, .int .u8 0, .int .u8 0, .int .u8 0, .int .u8 0, .int .u8 0, .int .u8 0, .int .u8 0, .int .u8 0, .int .u8 0, .int .u8 0, .int .u8 0, .int .u8 0, .int .u8 0, .int .u8 0, .int .u8 0, .int .u8 0, .int .u8 0, .int .u8 0, .int .u8 0, .int .u8 0, .int .u8 0, .int .u8 0, .int .u8 0, .int .u8 0, .int .u8 0, .int .u8 0, .int .u8 0, .int .u8 0, .int .u8 0, .int .u8 0, .int .u8 0, .int .u8 0, .int .u8 0, .int .u8 0, .int .u8 0, .int .u8 0, .int .u8 0, .int .u8 0, .int .u8 0, .int .u8 0, .int .u8 0, .int .u8 0, .int .u8 0, .int .u8 0, .int .u8 0, .int .u8 0, .int .u8 0, .int .u8 0, .int .u8 0, .int .u8 0, .int .u8 0, .int .u8 0, .int .u8 0, .int .u8 0, .int .u8 0, .int .u8 0, .int .u8 0, .int .u8 0, .int .u8 0, .int .u8 0, .int .u8 0, .int .u8 0, .int .u8 0, .int .u8 0, .int .u8 0, .int .u8 0, .int .u8 0, .int .u8 0, .int .u8 0, .int .u8 0, .int .u8 0, .int .u8 0, .int .u8 0, .int .u8 0, .int .u8 0, .int .u8 0, .int .u8 0, .int .u8 0, .int .u8 0, .int .u8 0, .int .u8 0, .int .u8 0, .int .u8 0, .int .u8 0, .int .u8 0, .int .u8 0, .int .u8 0, .int .u8 0, .int .u8 0, .int .u8 0, .int .u8 0, .int .u8 0, .int .u8 0, .int .u8 0, .int .u8 0, .int .u8 0, .int .u8 0, .int .u8 0, .int .u8 0, .int .u8 0, .int .u8 0, .int .u8 0, .int .u8 0, .int .u8 0, .int .u8 0, .int .u8 0, .int .u8 0, .int .u8 0, .int .u8 0, .int .u8 0, .int .u8 0, .int .u8 0, .int .u8 0, .int .u8 0, .int .u8 0, .int .u8 0, .int .u8 0, .int .u8 0, .int .u8 0, .int .u8 0, .int .u8 0, .int .u8 0, .int .u8 0, .int .u8 0, .int .u8 0, .int .u8 0, .int .u8 0, .int .u8 0, .int .u8 0, .int .u8 0, .int .u8 0, .int .u8 0, .int .u8 0, .int .u8 0, .int .u8 0]⟩ := by kernel_rfl
theorem td420 : tdOf Tryz.prog 420 = some (.struct [(0, 1), (1, 1)]) := by kernel_rfl
theorem ti420 : tiOf Tryz.prog 420 = some ⟨.struct [(0, 1), (1, 1)], 2, 2, [.int .u8 0, .int .u8 0]⟩ := by kernel_rfl
theorem td421 : tdOf Tryz.prog 421 = some (.struct [(0, 1), (1, 1)]) := by kernel_rfl
theorem ti421 : tiOf Tryz.prog 421 = some ⟨.struct [(0, 1), (1, 1)], 2, 2, [.int .u8 0, .int .u8 0]⟩ := by kernel_rfl
theorem td422 : tdOf Tryz.prog 422 = some (.array 16 421) := by kernel_rfl
theorem ti422 : tiOf Tryz.prog 422 = some ⟨.array 16 421, 32, 32, [.int .u8 0, .int .u8 0, .int .u8 0, .int .u8 0, .int .u8 0, .int .u8 0, .int .u8 0, .int .u8 0, .int .u8 0, .int .u8 0, .int .u8 0, .int .u8 0, .int .u8 0, .int .u8 0, .int .u8 0, .int .u8 0, .int .u8 0, .int .u8 0, .int .u8 0, .int .u8 0, .int .u8 0, .int .u8 0, .int .u8 0, .int .u8 0, .int .u8 0, .int .u8 0, .int .u8 0, .int .u8 0, .int .u8 0, .int .u8 0, .int .u8 0, .int .u8 0]⟩ := by kernel_rfl
theorem td423 : tdOf Tryz.prog 423 = some (.other) := by kernel_rfl
theorem ti423 : tiOf Tryz.prog 423 = some ⟨.other, 1, 8, [.nilfunc]⟩ := by kernel_rfl
theorem td424 : tdOf Tryz.prog 424 = some (.other) := by kernel_rfl
theorem ti424 : tiOf Tryz.prog 424 = some ⟨.other, 1, 8, [.nilfunc]⟩ := by kernel_rfl
theorem td425 : tdOf Tryz.prog 425 = some (.other) := by kernel_rfl
theorem ti425 : tiOf Tryz.prog 425 = some ⟨.other, 1, 8, [.nilfunc]⟩ := by kernel_rfl
theorem td426 : tdOf Tryz.prog 426 = some (.other) := by kernel_rfl
theorem ti426 : tiOf Tryz.prog 426 = some ⟨.other, 1, 8, [.nilfunc]⟩ := by kernel_rfl
theorem td427 : tdOf Tryz.prog 427 = some (.other) := by kernel_rfl
theorem ti427 : tiOf Tryz.prog 427 = some ⟨.other, 1, 8, [.nilfunc]⟩ := by kernel_rfl
theorem td428 : tdOf Tryz.prog 428 = some (.other) := by kernel_rfl
theorem ti428 : tiOf Tryz.prog 428 = some ⟨.other, 1, 8, [.nilfunc]⟩ := by kernel_rfl
theorem td429 : tdOf Tryz.prog 429 = some (.other) := by kernel_rfl
theorem ti429 : tiOf Tryz.prog 429 = some ⟨.other, 1, 8, [.nilfunc]⟩ := by kernel_rfl
theorem td430 : tdOf Tryz.prog 430 = some (.other) := by kernel_rfl
theorem ti430 : tiOf Tryz.prog 430 = some ⟨.other, 1, 8, [.nilfunc]⟩ := by kernel_rfl
theorem td431 : tdOf Tryz.prog 431 = some (.other) := by kernel_rfl
theorem ti431 : tiOf Tryz.prog 431 = some ⟨.other, 1, 8, [.nilfunc]⟩ := by kernel_rfl
theorem td432 : tdOf Tryz.prog 432 = some (.other) := by kernel_rfl
theorem ti432 : tiOf Tryz.prog 432 = some ⟨.other, 1, 8, [.nilfunc]⟩ := by kernel_rfl
theorem td433 : tdOf Tryz.prog 433 = some (.other) := by kernel_rfl
theorem ti433 : tiOf Tryz.prog 433 = some ⟨.other, 1, 8, [.nilfunc]⟩ := by kernel_rfl
theorem td434 : tdOf Tryz.prog 434 = some (.other) := by kernel_rfl
theorem ti434 : tiOf Tryz.prog 434 = some ⟨.other, 1, 8, [.nilfunc]⟩ := by kernel_rfl
theorem td435 : tdOf Tryz.prog 435 = some (.other) := by kernel_rfl
theorem ti435 : tiOf Tryz.prog 435 = some ⟨.other, 1, 8, [.nilfunc]⟩ := by kernel_rfl
theorem td436 : tdOf Tryz.prog 436 = some (.struct [(0, 1), (1, 1), (2, 1), (3, 1)]) := by kernel_rfl
theorem ti436 : tiOf Tryz.prog 436 = some ⟨.struct [(0, 1), (1, 1), (2, 1), (3, 1)], 4, 24, [.int .u8 0, .int .i64 0, .bool false, .bool false]⟩ := by kernel_rfl
theorem td437 : tdOf Tryz.prog 437 = some (.struct [(0, 1), (1, 1), (2, 1), (3, 1)]) := by kernel_rfl
theorem ti437 : tiOf Tryz.prog 437 = some ⟨.struct [(0, 1), (1, 1), (2, 1), (3, 1)], 4, 24, [.int .u8 0, .int .i64 0, .bool false, .bool false]⟩ := by kernel_rfl
theorem td438 : tdOf Tryz.prog 438 = some (.array 23 437) := by kernel_rfl
theorem ti438 : tiOf Tryz.prog 438 = some ⟨.array 23 437, 92, 552, [.int .u8 0, .int .i64 0, .bool false, .bool false, .int .u8 0, .int .i64 0, .bool false, .bool false, .int .u8 0, .int .i64 0, .bool false, .bool false, .int .u8 0, .int .i64 0, .bool false, .bool false, .int .u8 0, .int .i64 0, .bool false, .bool false, .int .u8 0, .int .i64 0, .bool false, .bool false, .int .u8 0, .int .i64 0, .bool false, .bool false, .int .u8 0, .int .i64 0, .bool false, .bool false, .int .u8 0, .int .i64 0, .bool false, .bool false, .int .u8 0, .int .i64 0, .bool false, .bool false, .int .u8 0, .int .i64 0, .bool false, .bool false, .int .u8 0, .int .i64 0, .bool false, .bool false, .int .u8 0, .int .i64 0, .bool false, .bool false, .int .u8 0, .int .i64 0, .bool false, .bool false, .int .u8 0, .int .i64 0, .bool false, .bool false, .int .u8 0, .int .i64 0, .bool false, .bool false, .int .u8 0, .int .i64 0, .bool false, .bool false, .int .u8 0, .int .i64 0, .bool false, .bool false, .int .u8 0, .int .i64 0, .bool false, .bool false, .int .u8 0, .int .i64 0, .bool false, .bool false, .int .u8 0, .int .i64 0, .bool false, .bool false, .int .u8 0, .int .i64 0, .bool false, .bool false, .int .u8 0, .int .i64 0, .bool false, .bool false]⟩ := by kernel_rfl
theorem td439 : tdOf Tryz.prog 439 = some (.other) := by kernel_rfl
theorem ti439 : tiOf Tryz.prog 439 = some ⟨.other, 1, 8, [.nilfunc]⟩ := by kernel_rfl
theorem td441 : tdOf Tryz.prog 441 = some (.other) := by kernel_rfl
theorem ti441 : tiOf Tryz.prog 441 = some ⟨.other, 1, 8, [.nilfunc]⟩ := by kernel_rfl
theorem td442 : tdOf Tryz.prog 442 = some (.other) := by kernel_rfl
theorem ti442 : tiOf Tryz.prog 442 = some ⟨.other, 1, 8, [.nilfunc]⟩ := by kernel_rfl
theorem td443 : tdOf Tryz.prog 443 = some (.other) := by kernel_rfl
theorem ti443 : tiOf Tryz.prog 443 = some ⟨.other, 1, 8, [.nilfunc]⟩ := by kernel_rfl
theorem td444 : tdOf Tryz.prog 444 = some (.other) := by kernel_rfl
theorem ti444 : tiOf Tryz.prog 444 = some ⟨.other, 1, 8, [.nilfunc]⟩ := by kernel_rfl
theorem td445 : tdOf Tryz.prog 445 = some (.struct [(0, 1), (1, 1), (2, 1), (3, 1)]) := by kernel_rfl
theorem ti445 : tiOf Tryz.prog 445 = some ⟨.struct [(0, 1), (1, 1), (2, 1), (3, 1)], 4, 40, [.nilptr, .nilptr, .nilptr, .str ⟨#[]⟩]⟩ := by kernel_rfl
theorem td446 : tdOf Tryz.prog 446 = some (.struct [(0, 1), (1, 1), (2, 1), (3, 1)]) := by kernel_rfl
theorem ti446 : tiOf Tryz.prog 446 = some ⟨.struct [(0, 1), (1, 1), (2, 1), (3, 1)], 4, 40, [.nilptr, .nilptr, .nilptr, .str ⟨#[]⟩]⟩ := by kernel_rfl
theorem td447 : tdOf Tryz.prog 447 = some (.array 0 16) := by kernel_rfl
theorem ti447 : tiOf Tryz.prog 447 = some ⟨.array 0 16, 0, 0, []⟩ := by kernel_rfl
theorem td448 : tdOf Tryz.prog 448 = some (.struct [(0, 0)]) := by kernel_rfl
theorem ti448 : tiOf Tryz.prog 448 = some ⟨.struct [(0, 0)], 0, 0, []⟩ := by kernel_rfl
theorem td449 : tdOf Tryz.prog 449 = some (.struct [(0, 0)]) := by kernel_rfl
theorem ti449 : tiOf Tryz.prog 449 = some ⟨.struct [(0, 0)], 0, 0, []⟩ := by kernel_rfl
theorem td450 : tdOf Tryz.prog 450 = some (.int .u8) := by kernel_rfl
theorem ti450 : tiOf Tryz.prog 450 = some ⟨.int .u8, 1, 1, [.int .u8 0]⟩ := by kernel_rfl
theorem td451 : tdOf Tryz.prog 451 = some (.int .u8) := by kernel_rfl
theorem ti451 : tiOf Tryz.prog 451 = some ⟨.int .u8, 1, 1, [.int .u8 0]⟩ := by kernel_rfl
theorem td452 : tdOf Tryz.prog 452 = some (.other) := by kernel_rfl
theorem ti452 : tiOf Tryz.prog 452 = some ⟨.other, 1, 8, [.nilfunc]⟩ := by kernel_rfl
theorem td453 : tdOf Tryz.prog 453 = some (.other) := by kernel_rfl
theorem ti453 : tiOf Tryz.prog 453 = some ⟨.other, 1, 8, [.nilptr]⟩ := by kernel_rfl
theorem td454 : tdOf Tryz.prog 454 = some (.int .i32) := by kernel_rfl
theorem ti454 : tiOf Tryz.prog 454 = some ⟨.int .i32, 1, 4, [.int .i32 0]⟩ := by kernel_rfl
theorem td455 : tdOf Tryz.prog 455 = some (.int .i32) := by kernel_rfl
theorem ti455 : tiOf Tryz.prog 455 = some ⟨.int .i32, 1, 4, [.int .i32 0]⟩ := by kernel_rfl
theorem td456 : tdOf Tryz.prog 456 = some (.struct [(0, 1), (1, 1), (2, 1), (3, 1), (4, 1), (5, 1), (6, 1), (7, 1), (8, 1), (9, 1), (10, 1)]) := by kernel_rfl
theorem ti456 : tiOf Tryz.prog 456 = some ⟨.struct [(0, 1), (1, 1), (2, 1), (3, 1), (4, 1), (5, 1), (6, 1), (7, 1), (8, 1), (9, 1), (10, 1)], 11, 48, [.int .u64 0, .int .u64 0, .int .u32 0, .int .u8 0, .int .u8 0, .int .u8 0, .int .u8 0, .nilfunc, .nilptr, .int .i32 0, .int .i32 0]⟩ := by kernel_rfl
theorem td457 : tdOf Tryz.prog 457 = some (.struct [(0, 1), (1, 1), (2, 1), (3, 1), (4, 1), (5, 1), (6, 1), (7, 1), (8, 1), (9, 1), (10, 1)]) := by kernel_rfl
theorem ti457 : tiOf Tryz.prog 457 = some ⟨.struct [(0, 1), (1, 1), (2, 1), (3, 1), (4, 1), (5, 1), (6, 1), (7, 1), (8, 1), (9, 1), (10, 1)], 11, 48, [.int .u64 0, .int .u64 0, .int .u32 0, .int .u8 0, .int .u8 0, .int .u8 0, .int .u8 0, .nilfunc, .nilptr, .int .i32 0, .int .i32 0]⟩ := by kernel_rfl
theorem td458 : tdOf Tryz.prog 458 = some (.struct [(0, 1), (1, 1)]) := by kernel_rfl
theorem ti458 : tiOf Tryz.prog 458 = some ⟨.struct [(0, 1), (1, 1)], 2, 24, [.str ⟨#[]⟩, .int .u8 0]⟩ := by kernel_rfl
theorem td459 : tdOf Tryz.prog 459 = some (.struct [(0, 1), (1, 1)]) := by kernel_rfl
theorem ti459 : tiOf Tryz.prog 459 = some ⟨.struct [(0, 1), (1, 1)], 2, 24, [.str ⟨#[]⟩, .int .u8 0]⟩ := by kernel_rfl
theorem mT270 : GT.mutT Tryz.prog 270 = true := by kernel_rfl
theorem mT62 : GT.mutT Tryz.prog 62 = true := by kernel_rfl
theorem mT165 : GT.mutT Tryz.prog 165 = true := by kernel_rfl
theorem mT175 : GT.mutT Tryz.prog 175 = true := by kernel_rfl
theorem mT183 : GT.mutT Tryz.prog 183 = true := by kernel_rfl
theorem mT191 : GT.mutT Tryz.prog 191 = true := by kernel_rfl
theorem mT51 : GT.mutT Tryz.prog 51 = true := by kernel_rfl
theorem mN22 : GT.mutN Tryz.prog 22 = false := by kernel_rfl
theorem mN24 : GT.mutN Tryz.prog 24 = false := by kernel_rfl
theorem mN25 : GT.mutN Tryz.prog 25 = false := by kernel_rfl
theorem mN26 : GT.mutN Tryz.prog 26 = false := by kernel_rfl
theorem mN27 : GT.mutN Tryz.prog 27 = false := by kernel_rfl
theorem mN28 : GT.mutN Tryz.prog 28 = false := by kernel_rfl
theorem mN29 : GT.mutN Tryz.prog 29 = false := by kernel_rfl
theorem mN30 : GT.mutN Tryz.prog 30 = false := by kernel_rfl
theorem mN31 : GT.mutN Tryz.prog 31 = false := by kernel_rfl
theorem mN32 : GT.mutN Tryz.prog 32 = false := by kernel_rfl
theorem mN41 : GT.mutN Tryz.prog 41 = false := by kernel_rfl
theorem mN58 : GT.mutN Tryz.prog 58 = false := by kernel_rfl
theorem mN62 : GT.mutN Tryz.prog 62 = false := by kernel_rfl
theorem mN67 : GT.mutN Tryz.prog 67 = false := by kernel_rfl
theorem mN71 : GT.mutN Tryz.prog 71 = false := by kernel_rfl
theorem mN90 : GT.mutN Tryz.prog 90 = false := by kernel_rfl
theorem mN154 : GT.mutN Tryz.prog 154 = false := by kernel_rfl
theorem mN166 : GT.mutN Tryz.prog 166 = false := by kernel_rfl
theorem mN184 : GT.mutN Tryz.prog 184 = false := by kernel_rfl
theorem mN296 : GT.mutN Tryz.prog 296 = false := by kernel_rfl
theorem mN343 : GT.mutN Tryz.prog 343 = false := by kernel_rfl
end Go.Aw
end
