/-
  A part of the proof of SideOrderCardSaid (see the last text, Om): no statement of its own, no condition.
-/
import Derived.Test.YtchgjamonjfjhaaGreatDoorFh
import Derived.Test.YtchgjamonjfjhaaGreatDoorEa
import Derived.Test.YtchgjamonjfjhaaGreatDoorEb
import Derived.Test.YtchgjamonjfjhaaGreatDoorEc
set_option linter.unusedSimpArgs false
set_option linter.unusedVariables false
section
set_option linter.unusedVariables false
namespace Go.Aw
open Go.Proofs
def frzL : List Nat := [38, 99, 180, 186, 190, 245, 250, 251, 260, 316, 321, 330, 358, 363, 364, 365, 366, 369]
def gtab : List (Nat × List AV) := [(0, [.int .i64 0, .int .i64 1, .int .i64 1, .int .i64 2, .int .i64 4, .int .i64 2, .int .i64 5, .int .i64 5, .int .i64 1, .int .i64 11, .int .i64 11, .int .i64 1, .int .i64 12, .int .i64 13, .int .i64 3, .int .i64 14, .int .i64 14, .int .i64 4, .int .i64 15, .int .i64 15, .int .i64 1, .int .i64 16, .int .i64 16, .int .i64 3, .int .i64 17, .int .i64 17, .int .i64 5, .int .i64 26, .int .i64 27, .int .i64 1, .int .i64 32, .int .i64 36, .int .i64 3, .int .i64 40, .int .i64 41, .int .i64 6, .int .i64 44, .int .i64 55, .int .i64 6, .int .i64 58, .int .i64 62, .int .i64 6, .int .i64 63, .int .i64 64, .int .i64 7, .int .i64 65, .int .i64 65, .int .i64 8, .int .i64 66, .int .i64 66, .int .i64 9, .int .i64 69, .int .i64 90, .int .i64 1, .int .i64 103, .int .i64 138, .int .i64 1, .int .i64 167, .int .i64 167, .int .i64 1, .int .i64 172, .int .i64 173, .int .i64 1]), (4, [.int .u8 127, .int .i64 4, .bool false, .bool false, .int .u8 126, .int .i64 8, .bool false, .bool false, .int .u8 0, .int .i64 0, .bool false, .bool false, .int .u8 0, .int .i64 0, .bool false, .bool false, .int .u8 127, .int .i64 1, .bool true, .bool false, .int .u8 127, .int .i64 1, .bool false, .bool false, .int .u8 127, .int .i64 2, .bool true, .bool false, .int .u8 127, .int .i64 2, .bool false, .bool false, .int .u8 126, .int .i64 1, .bool true, .bool false, .int .u8 126, .int .i64 1, .bool false, .bool false, .int .u8 126, .int .i64 2, .bool true, .bool false, .int .u8 126, .int .i64 2, .bool false, .bool false, .int .u8 126, .int .i64 4, .bool true, .bool false, .int .u8 126, .int .i64 4, .bool false, .bool false, .int .u8 127, .int .i64 4, .bool false, .bool true, .int .u8 126, .int .i64 8, .bool false, .bool true, .int .u8 0, .int .i64 0, .bool false, .bool false, .int .u8 0, .int .i64 0, .bool false, .bool false, .int .u8 127, .int .i64 1, .bool false, .bool true, .int .u8 127, .int .i64 2, .bool false, .bool true, .int .u8 126, .int .i64 1, .bool false, .bool true, .int .u8 126, .int .i64 2, .bool false, .bool true, .int .u8 126, .int .i64 4, .bool false, .bool true])]
instance gt0 : GT Tryz.prog := ⟨fun g => (gtab.find? fun p => Nat.beq p.1 g).map (·.2), fun t => Nat.beq t 270 || Nat.beq t 62 || Nat.beq t 165 || Nat.beq t 175 || Nat.beq t 183 || Nat.beq t 191 || Nat.beq t 51, fun t => Nat.beq t 270 || Nat.beq t 165 || Nat.beq t 175 || Nat.beq t 183 || Nat.beq t 191 || Nat.beq t 51, fun f => frzL.any (Nat.beq f)⟩


/-- What the machine's own functions of the sort answer, and 'want' of nothing. -/
noncomputable def extT : Callee := fun n args mem =>
  if Nat.beq n 205 then (match args with
    | [.ptr _ _, v] => match slLen v with
      | some 0 => some (.int .i64 0, mem)
      | _ => none
    | _ => none)
  else if Nat.beq n 195 then (match args with
    | [.iface t v] => if Nat.beq t 62 then (match slLen v with
      | some _ => some (.agg [.rawp ⟨Tryz.prog.globals.size, 62, none⟩, .ptr mem.length 0, .int .u64 151], mem ++ [[v.ro]])
      | none => none) else none
    | _ => none)
  else if Nat.beq n 196 then (match args with
    | [.iface t v] => if Nat.beq t 62 then (match slLen v with
      | some 0 => some (.func 274 [] [], mem)
      | some 1 => some (.func 275 [] [], mem)
      | some (_ + 2) => some (.func 282 [] [v.ro, .rawp ⟨Tryz.prog.globals.size, 77, none⟩], mem)
      | none => none) else none
    | _ => none)
  else if Nat.beq n 198 then (match args with
    | [.agg [.rawp ⟨g, t, none⟩, .ptr k 0, .int .u64 151]] => if Nat.beq t 62 && Nat.beq g Tryz.prog.globals.size then (match mem[k]? with
      | some (v :: _) => match slLen v with
        | some len => some (.int .i64 len, mem)
        | none => none
      | _ => none) else none
    | _ => none)
  else if Nat.beq n 372 then (match args with
    | [.nilsl, .int .i64 k] => if decide (k = 0) then some (.nilsl, mem) else if decide (0 < k) && decide (k ≤ 100000000) then some (.list (some 1) [], mem) else none
    | _ => none)
  else if Nat.beq n 97 then (match args with
    | [v] => (match slLen v with
      | some 0 => some (.nils, mem)
      | _ => none)
    | _ => none)
  else none
end Go.Aw
end
