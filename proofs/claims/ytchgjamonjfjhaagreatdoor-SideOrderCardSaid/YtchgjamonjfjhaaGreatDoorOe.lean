/-
  A part of the proof of SideOrderCardSaid (see the last text, Om): no statement of its own, no condition.
-/
import Derived.Test.YtchgjamonjfjhaaGreatDoorOd
import Derived.WalkSpells
import Derived.WalkKit
import Derived.Lib.Walk
import Derived.Lib.SliceRun
import Derived.Lib.AppendZerosOnto
import Derived.Test.YtchgjamonjfjhaaGreatDoorProg
set_option linter.unusedSimpArgs false
set_option linter.unusedVariables false
section
set_option linter.unusedVariables false
set_option linter.unusedSimpArgs false
namespace Go.Proofs
open Go.RowKit Go.Lib
theorem Tc.u62 : Tryz.prog.underlying 62 = some (.slice 77) := by kernel_rfl
theorem Tc.info77 : (Tryz.prog.info? 77).map (fun i => (i.zero.isSome, i.size, i.bytes)) = some (true, 4, 32) := by kernel_rfl
set_option maxRecDepth 100000 in
theorem append_0062 (a b : Addr) (c : Nat) (w : World) (ty : TypeId) : (Builtin.append_ #[62, 62] ty #[.slice (some b) 0 0, .slice (some a) 0 c]).run Tryz.prog w = .ok (.slice (some b) 0 0) w := by
  have h := Tc.info77
  cases hi0 : Tryz.prog.info? 77 with
  | none => rw [hi0] at h; cases h
  | some i =>
  rw [hi0] at h
  injection h with h; injection h with hz h; injection h with hs hb
  simp [Builtin.append_, run_underlying Tc.u62, Go.sizeOf, typeInfo, hi0, hs, Builtin.lenOf, Builtin.firstCells, loadCells, loadCellsFrom, storeCells, Result.andThen]

set_option maxHeartbeats 2000000 in
set_option maxRecDepth 100000 in
theorem sclone_some (a : Addr) (c : Nat) (w : World) : Calls Tryz.prog 92 #[.slice (some a) 0 c] w fun e w' => (∃ b, e = .returned (.slice b 0 0)) ∧ Below w.heap.size w w' := by
  have u62 := run_underlying Tc.u62
  obtain ⟨i0, hi0, hz0, hs0, hb0⟩ : ∃ i, Tryz.prog.info? 77 = some i ∧ i.zero.isSome = true ∧ i.size = 4 ∧ i.bytes = 32 := by
    have h := Tc.info77
    cases hi0 : Tryz.prog.info? 77 with
    | none => rw [hi0] at h; cases h
    | some i =>
      rw [hi0] at h
      injection h with h; injection h with hz h; injection h with hs hb
      exact ⟨i, rfl, hz, hs, hb⟩
  have hnil := fun (w : World) => run_eql_slice_nil (P := Tryz.prog) w 62 77 (some a) 0 c 0 0 Tc.u62
  have hrz := fun (w : World) (ty : TypeId) (b : Addr) => append_0062 a b c w ty
  go_enter Tryz.func92, Tryz.ntmps92
  go_wp2_with (at_builtin; refine Lib.wpList_append_run _ rfl _ _ _ _ rfl _ _ rfl rfl _ _ (hrz _ _ _) ?_)
  go_ret
  exact ⟨⟨_, rfl⟩, (Below.refl _ _).alloc (Nat.le_refl _) _⟩
set_option maxHeartbeats 2000000 in
set_option maxRecDepth 100000 in
theorem sclone_none (c : Nat) (w : World) : Calls Tryz.prog 92 #[.slice none 0 c] w fun e w' => (∃ b, e = .returned (.slice b 0 0)) ∧ Below w.heap.size w w' := by
  have u62 := run_underlying Tc.u62
  have hnil := fun (w : World) => run_eql_slice_nil (P := Tryz.prog) w 62 77 none 0 c 0 0 Tc.u62
  go_enter Tryz.func92, Tryz.ntmps92
  go_wp2
  go_ret
  exact ⟨⟨_, rfl⟩, Below.refl _ _⟩
end Go.Proofs
namespace Go.Aw
open Go.Proofs
/-- slices.Clone of nothing. -/
theorem ctr_sclone0 {mem : List (List AV)} {v : AV} (hv : slLen v = some 0) : Ctr Tryz.prog 92 [v] mem (.ret .nils) mem :=
  ctr_below (enters_of Tryz.func92 rfl (by decide)) fun w R ι ω vs hl hvs => by
    have hsz : vs.size = 1 := by simpa using hl.symm
    have g0 := hvs 0 _ _ rfl (Array.getElem?_eq_getElem (by omega))
    obtain ⟨a, c, g⟩ := slLen_inv hv g0
    have hvse : vs = #[.slice a 0 c] := by
      apply Array.ext
      · simp [hsz]
      · intro i h1 h2
        have : i = 0 := by omega
        subst this
        exact g
    rw [hvse]
    cases a with
    | none =>
      refine (sclone_none c w).mono ?_
      rintro e w' ⟨⟨b, rfl⟩, hB⟩
      exact ⟨⟨_, rfl, fun R => .nils b⟩, hB⟩
    | some a =>
      refine (sclone_some a c w).mono ?_
      rintro e w' ⟨⟨b, rfl⟩, hB⟩
      exact ⟨⟨_, rfl, fun R => .nils b⟩, hB⟩
noncomputable def extO : Callee := fun n args mem =>
  if Nat.beq n 92 then (match args with
    | [v] => (match slLen v with
      | some 0 => some (.nils, mem)
      | _ => none)
    | _ => none)
  else extT n args mem
theorem extO_ok : CalleeOk Tryz.prog extO := by
  intro n args mem v mem' h
  unfold extO at h
  split at h
  · rename_i hn; obtain rfl := Nat.eq_of_beq_eq_true hn
    split at h
    · split at h
      · rename_i hs; injection h with h; injection h with h1 h2; subst h1; subst h2; exact ctr_sclone0 hs
      · cases h
    · cases h
  · exact extT_ok _ _ _ _ _ h
theorem run0 : (callO Tryz.prog extO 60 10000 38 [.list none []] []).isSome = true := by kernel_rfl
theorem run1 (a b c d : Int) : callO Tryz.prog extT 60 10000 38 [.list none [[.int .i64 a, .int .i64 b, .int .i64 c, .int .i64 d]]] [] = some (.list none [[.int .i64 a, .int .i64 b, .int .i64 c, .int .i64 d]], []) := by kernel_rfl
end Go.Aw
namespace Go.Aw
open Go.Proofs
theorem run0' : callO Tryz.prog extO 60 10000 38 [.list none []] [] = some (.nils, []) := by kernel_rfl
end Go.Aw
end
