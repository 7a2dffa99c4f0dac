/-
  A part of the proof of SideOrderCardSaid (see the last text, Om): no statement of its own, no condition.
-/
import Derived.Test.YtchgjamonjfjhaaGreatDoorFh
import Derived.Shelf.RegionOpenPlain
import Derived.WalkKit
import Derived.Lib.Walk
import Derived.Lib.SliceRun
import Derived.Lib.AppendZerosOnto
import Derived.Test.YtchgjamonjfjhaaGreatDoorProg
set_option linter.unusedSimpArgs false
set_option linter.unusedVariables false
section
set_option linter.unusedVariables false
set_option linter.unusedSimpArgs false
namespace Go.Proofs
open Go.Shelf Go.RowKit Go.Lib

theorem Tz.info5 : (Tryz.prog.info? 5).map (fun i => (i.zero, i.size, i.bytes)) = some (some (.int .u8 0), 1, 1) := by kernel_rfl
theorem Tz.u22 : Tryz.prog.underlying 22 = some (.slice 5) := by kernel_rfl
theorem Tz.u3 : Tryz.prog.underlying 3 = some (.int .i64) := by kernel_rfl

set_option maxHeartbeats 2000000 in
set_option maxRecDepth 100000 in
theorem grow_nil (n : Nat) (h0 : 0 < n) (hn : n ≤ 100000000) (w : World) :
    Calls Tryz.prog 372 #[.slice none 0 0, .int .i64 n] w fun e w' => ∃ G cs, e = .returned (.slice (some ⟨w.heap.size, 0, none⟩) 0 G) ∧ w' = w.drew.alloc (.cells cs 5) ∧ G ≤ cs.size := by
  obtain ⟨i0, hi0, hz0, hs0, hb0⟩ := info_parts Tz.info5
  have h2 : wrap64 ((0 : Nat) - (0 : Nat) : Int) = 0 := by unfold wrap64; omega
  have h3 : wrap64 ((n : Int) - 0) = (n : Int) := by unfold wrap64; omega
  have hold : (Builtin.firstCells i0.size 0 (.slice none 0 0)).run Tryz.prog w.drew = .ok ([] : List Value).toArray w.drew := run_firstCells_none w.drew i0.size 0 0 0
  have hGn : n ≤ grownCap w n 0 5 := grownCap_ge w _ _ _
  have hrz : ∀ ty, (Builtin.append_ #[22, 3] ty #[.slice none 0 0, .int .i64 (n : Int)]).run Tryz.prog w =
      .ok (.slice (some ⟨w.heap.size, 0, none⟩) n (grownCap w n 0 5)) (w.drew.alloc (.cells (([] : List Value).toArray ++ Builtin.zeroCells #[.int .u8 0] n ++ Builtin.zeroCells #[.int .u8 0] (grownCap w n 0 5 - n)) 5)) := fun ty => by
    have h := Lib.run_append_grow_zeros w 22 3 ty 5 i0 (.int .u8 0) .i64 .i64 Tz.u22 Tz.u3 hi0 hz0 none 0 0 [] hold n h0 (by rw [hs0]; decide) (by omega) (by omega)
      (by rw [hb0]; omega) (growslice_fits (by omega) (by rw [hb0]; omega))
    rw [Nat.zero_add] at h
    exact h
  have hsz : ∀ k, (Builtin.zeroCells #[Value.int .u8 0] k).size = k := fun k => by simp [Builtin.zeroCells]
  obtain ⟨G, hG⟩ : ∃ G, G = grownCap w n 0 5 := ⟨_, rfl⟩
  rw [← hG] at hrz hGn
  have hG63 : G ≤ 9223372036854775807 := by
    have := grownCap_le_maxLen w n 0 5 (by unfold maxLen; omega)
    rw [← hG] at this
    unfold maxLen at this
    omega
  obtain ⟨C, hC, hCs⟩ : ∃ C, C = (([] : List Value).toArray ++ Builtin.zeroCells #[.int .u8 0] n ++ Builtin.zeroCells #[.int .u8 0] (G - n)) ∧ G ≤ C.size :=
    ⟨_, rfl, by simp [hsz]; omega⟩
  rw [← hC] at hrz
  have u22 := run_underlying Tz.u22
  clear hold hG hC
  go_enter Tryz.func372, Tryz.ntmps372
  go_wp2_with (at_builtin; refine Lib.wpList_append_run _ rfl _ _ _ _ rfl _ _ rfl rfl _ _ (hrz _) ?_)
  all_goals (go_ret; exact ⟨_, _, rfl, rfl, hCs⟩)

set_option maxHeartbeats 2000000 in
set_option maxRecDepth 100000 in
theorem grow_zero (w : World) : Calls Tryz.prog 372 #[.slice none 0 0, .int .i64 0] w fun e w' => e = .returned (.slice none 0 0) ∧ w' = w := by
  go_enter Tryz.func372, Tryz.ntmps372
  go_wp2
  go_ret
  exact ⟨rfl, rfl⟩
end Go.Proofs
namespace Go.Aw
open Go.Proofs
/-- slices.Grow of nil bytes: room, and nothing in it. -/
theorem ctr_grow [GT Tryz.prog] {n : Nat} {mem : List (List AV)} (h0 : 0 < n) (hn : n ≤ 100000000) : Ctr Tryz.prog 372 [.nilsl, .int .i64 n] mem (.ret (.list (some 1) [])) mem where
  len := Nat.le_refl _
  run := fun w R ι ω vs hl hvs hmr hdom hgk => .inl ⟨enters_of Tryz.func372 rfl (by decide) _ _, by
    have hsz : vs.size = 2 := by simpa using hl.symm
    have g0 := hvs 0 _ _ rfl (Array.getElem?_eq_getElem (by omega))
    have g1 := (hvs 1 _ _ rfl (Array.getElem?_eq_getElem (by omega))).int_inv
    have g0' : vs[0] = .slice none 0 0 := by
      generalize vs[0]'(by omega) = X at g0
      cases g0 with
      | pure _ _ _ hp => cases hp; rfl
    have hvse : vs = #[.slice none 0 0, .int .i64 n] := by
      apply Array.ext
      · simp [hsz]
      · intro i h1 h2
        match i with
        | 0 => exact g0'
        | 1 => exact g1
        | i + 2 => omega
    have hrel := (rel_start hl hvs hmr).drew
    rw [hvse]
    refine (grow_nil n h0 hn w).mono ?_
    rintro e w' ⟨G, cs, rfl, rfl, hG⟩
    have h2 := hrel.allocRow (d := 0) (show 0 < vs.size by omega) (xs := []) (sz := 1) (c := G) (arr := cs) 5 (0, 0) (by simp) (Nat.zero_le _) (by omega) (by simp) (fun _ _ => undef) (by simp) (by simp)
    let f : List Nat → List Nat := rp [0, 0] [2]
    obtain ⟨x, hx, hr⟩ := h2.slots 0 (.list (some 1) []) (upd_same _ _ _)
    have hx' : x = .slice (some ⟨w.heap.size, 0, none⟩) 0 G := by
      rw [put_get (show 0 < vs.size by omega), if_pos rfl] at hx
      injection hx with hx; exact hx.symm
    subst hx'
    have h3 : Rel (callG w R ι ω mem vs.size) (fun _ => none) (vw mem) { tmps := vs, defers := [] } (w.drew.alloc (.cells cs 5)) (upd R w.heap.size (some 0)) ι (fun k => (upd ω w.heap.size (some [0, 0]) k).map f) :=
      ⟨(fun d v hv => by cases hv), rfl, rfl, h2.mr.remap f (fun o c s => rfl), h2.env.remap f⟩
    exact ⟨_, _, _, rel_post h3 (fun _ => rfl), _, rfl, hr.remap [2] (fun k s hk => by
      show ((upd ω w.heap.size (some [0, 0])) k).map f = _
      have : (upd ω w.heap.size (some [0, 0])) k = some ([0, 0] ++ s) := hk
      rw [this]; exact congrArg some (rp_at _ _ _))⟩⟩

theorem ctr_grow0 [GT Tryz.prog] {mem : List (List AV)} : Ctr Tryz.prog 372 [.nilsl, .int .i64 0] mem (.ret .nilsl) mem :=
  ctr_below (enters_of Tryz.func372 rfl (by decide)) fun w R ι ω vs hl hvs => by
    have hsz : vs.size = 2 := by simpa using hl.symm
    have g0 := hvs 0 _ _ rfl (Array.getElem?_eq_getElem (by omega))
    have g1 := (hvs 1 _ _ rfl (Array.getElem?_eq_getElem (by omega))).int_inv
    have g0' : vs[0] = .slice none 0 0 := by
      generalize vs[0]'(by omega) = X at g0
      cases g0 with
      | pure _ _ _ hp => cases hp; rfl
    have hvse : vs = #[.slice none 0 0, .int .i64 0] := by
      apply Array.ext
      · simp [hsz]
      · intro i h1 h2
        match i with
        | 0 => exact g0'
        | 1 => exact g1
        | i + 2 => omega
    rw [hvse]
    refine (grow_zero w).mono ?_
    rintro e w' ⟨rfl, rfl⟩
    exact ⟨⟨_, rfl, fun R => .nilsl⟩, Go.RowKit.Below.refl _ _⟩
end Go.Aw
end
