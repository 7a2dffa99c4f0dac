/-
  A part of the proof of SideOrderCardSaid (see the last text, Om): no statement of its own, no condition.
-/
import Derived.Test.YtchgjamonjfjhaaGreatDoorFh
import Derived.WalkSpells
import Derived.WalkKit
import Derived.Lib.Walk
import Derived.Lib.SliceRun
import Derived.Lib.AppendZerosOnto
import Derived.Test.YtchgjamonjfjhaaGreatDoorProg
set_option linter.unusedSimpArgs false
set_option linter.unusedVariables false
section
set_option linter.unusedVariables false
set_option linter.unusedSimpArgs false
namespace Go.Proofs
open Go.RowKit Go.Lib
theorem Tc.u22 : Tryz.prog.underlying 22 = some (.slice 5) := by kernel_rfl
theorem Tc.info5 : (Tryz.prog.info? 5).map (fun i => (i.zero, i.size, i.bytes)) = some (some (.int .u8 0), 1, 1) := by kernel_rfl
theorem append_00 (a b : Addr) (c : Nat) (w : World) (ty : TypeId) : (Builtin.append_ #[22, 22] ty #[.slice (some b) 0 0, .slice (some a) 0 c]).run Tryz.prog w = .ok (.slice (some b) 0 0) w := by
  obtain ⟨i0, hi0, hz0, hs0, hb0⟩ := info_parts Tc.info5
  simp [Builtin.append_, run_underlying Tc.u22, Go.sizeOf, typeInfo, hi0, hs0, Builtin.lenOf, Builtin.firstCells, loadCells, loadCellsFrom, storeCells, Result.andThen]

set_option maxHeartbeats 2000000 in
set_option maxRecDepth 100000 in
theorem bclone_some (a : Addr) (c : Nat) (w : World) : Calls Tryz.prog 97 #[.slice (some a) 0 c] w fun e w' => (∃ b, e = .returned (.slice b 0 0)) ∧ Below w.heap.size w w' := by
  have u22 := run_underlying Tc.u22
  obtain ⟨i0, hi0, hz0, hs0, hb0⟩ := info_parts Tc.info5
  have hnil := fun (w : World) => run_eql_slice_nil (P := Tryz.prog) w 22 5 (some a) 0 c 0 0 Tc.u22
  have hrz := fun (w : World) (ty : TypeId) (b : Addr) => append_00 a b c w ty
  go_enter Tryz.func97, Tryz.ntmps97
  go_wp2_with (at_builtin; refine Lib.wpList_append_run _ rfl _ _ _ _ rfl _ _ rfl rfl _ _ (hrz _ _ _) ?_)
  go_ret
  exact ⟨⟨_, rfl⟩, (Below.refl _ _).alloc (Nat.le_refl _) _⟩
set_option maxHeartbeats 2000000 in
set_option maxRecDepth 100000 in
theorem bclone_none (c : Nat) (w : World) : Calls Tryz.prog 97 #[.slice none 0 c] w fun e w' => (∃ b, e = .returned (.slice b 0 0)) ∧ Below w.heap.size w w' := by
  have u22 := run_underlying Tc.u22
  have hnil := fun (w : World) => run_eql_slice_nil (P := Tryz.prog) w 22 5 none 0 c 0 0 Tc.u22
  go_enter Tryz.func97, Tryz.ntmps97
  go_wp2
  go_ret
  exact ⟨⟨_, rfl⟩, Below.refl _ _⟩
end Go.Proofs
namespace Go.Aw
open Go.Proofs
/-- bytes.Clone of nothing. -/
theorem ctr_bclone [GT Tryz.prog] {mem : List (List AV)} {v : AV} (hv : slLen v = some 0) : Ctr Tryz.prog 97 [v] mem (.ret .nils) mem :=
  ctr_below (enters_of Tryz.func97 rfl (by decide)) fun w R ι ω vs hl hvs => by
    have hsz : vs.size = 1 := by simpa using hl.symm
    have g0 := hvs 0 _ _ rfl (Array.getElem?_eq_getElem (by omega))
    obtain ⟨a, c, g⟩ := slLen_inv hv g0
    have hvse : vs = #[.slice a 0 c] := by
      apply Array.ext
      · simp [hsz]
      · intro i h1 h2
        have : i = 0 := by omega
        subst this
        exact g
    rw [hvse]
    cases a with
    | none =>
      refine (bclone_none c w).mono ?_
      rintro e w' ⟨⟨b, rfl⟩, hB⟩
      exact ⟨⟨_, rfl, fun R => .nils b⟩, hB⟩
    | some a =>
      refine (bclone_some a c w).mono ?_
      rintro e w' ⟨⟨b, rfl⟩, hB⟩
      exact ⟨⟨_, rfl, fun R => .nils b⟩, hB⟩
end Go.Aw
end
