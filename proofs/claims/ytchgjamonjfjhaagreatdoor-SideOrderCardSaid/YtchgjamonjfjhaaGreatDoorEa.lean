/-
  A part of the proof of SideOrderCardSaid (see the last text, Om): no statement of its own, no condition.
-/
import Derived.RangeFuncKeeps
import Derived.RangeFuncLeaves
import Derived.Shelf.Abstract
import Derived.WalkKit
import Derived.OwnWalkIn
import Derived.TacticsInMore
import Derived.LoopNIn
import Derived.LoopIn
import Derived.RangeFuncFrom
import Derived.Test.YtchgjamonjfjhaaGreatDoorProg
set_option linter.unusedSimpArgs false
set_option linter.unusedVariables false
section
namespace Go.Proofs
open Go.RowKit Go.Shelf
attribute [local go_sem] Oper.semAt_some

theorem kcell_of_box {W : World} {B : Nat} {v : Value} {t : TypeId} (h : W.heap[B]? = some (.cells #[v] t (0, 0))) : W.cell? ⟨B, 0, none⟩ = some v ∧ W.frozen? ⟨B, 0, none⟩ = false := by
  constructor <;> simp [World.cell?, World.frozen?, h]
theorem kcell_new (W : World) (v : Value) (t : TypeId) : (W.alloc (.cells #[v] t)).cell? ⟨W.heap.size, 0, none⟩ = some v ∧ (W.alloc (.cells #[v] t)).frozen? ⟨W.heap.size, 0, none⟩ = false :=
  kcell_of_box (World.alloc_heap_new W _)
theorem kcell_alloc {W : World} {a : Addr} {v : Value} (o : Obj) (h : W.cell? a = some v) : (W.alloc o).cell? a = some v := cell_kept h (World.grownBy_alloc W o none) (fun r e => by cases e)
theorem kfrozen_alloc {W : World} {a : Addr} {v : Value} (o : Obj) (h : W.cell? a = some v) (hf : W.frozen? a = false) : (W.alloc o).frozen? a = false := (frozen_kept h (World.grownBy_alloc W o none) (fun r e => by cases e)).trans hf

set_option maxRecDepth 100000 in
set_option maxHeartbeats 1000000 in
theorem back_nil (F : Fence) (n : Nat) (hF : F.fn 334) (hro : F.round = none) (l Bn : Nat) (a : Option Addr) (c : Nat) (W : World)
    (hBn : W.cell? ⟨Bn, 0, none⟩ = some (.slice a 0 c)) :
    CallsIn F n Tryz.prog 334 #[.func (.yield l) #[] #[], .pointer (some ⟨Bn, 0, none⟩)] W fun e W' => (∃ v, e = .returned v) ∧ W' = W := by
  refine callsIn_of_wp Tryz.func334 rfl hF ?_ hro
  simp only [Tryz.ntmps334, List.size_toArray, List.length_cons, List.length_nil, Nat.reduceAdd, Nat.reduceSub, Array.replicate_succ, Array.replicate_zero, List.push_toArray, List.append_toArray, List.nil_append, List.cons_append]
  gi_wp2
  refine wpIn_loop_rounds 1 ?_
  rw [roundsIn_succ]
  gi_wp2
  go_end0
  exact ⟨⟨_, rfl⟩, rfl⟩

set_option maxHeartbeats 1000000 in
theorem backward_in (F : Fence) (n : Nat) (hF : F.fn 289) (hro : F.round = none) (v : Value) (h1 : v.oneCell' = true) (hc : v.cells = #[v]) (w : World) :
    CallsIn F n Tryz.prog 289 #[v] w fun e w' => e = .returned (.func (.func 334) #[] #[.pointer (some ⟨w.heap.size, 0, none⟩)]) ∧ w' = w.alloc (.cells #[v] 22) := by
  refine callsIn_of_wp Tryz.func289 rfl hF ?_ hro
  simp only [Tryz.ntmps289, List.size_toArray, List.length_cons, List.length_nil, Nat.reduceAdd, Nat.reduceSub, Array.replicate_succ, Array.replicate_zero, List.push_toArray, List.append_toArray, List.nil_append, List.cons_append]
  gi_wp2
  go_ret
  exact ⟨rfl, rfl⟩

theorem back_stops (F : Fence) (n : Nat) (hF : F.fn 334) (hro : F.round = none) (Bn : Nat) (a : Option Addr) (c : Nat) (w : World) (hBn : Bn < w.heap.size) (hc : w.cell? ⟨Bn, 0, none⟩ = some (.slice a 0 c)) :
    SeqStopsK F n Tryz.prog 334 #[.pointer (some ⟨Bn, 0, none⟩)] (fun _ : Empty => #[]) (Below 0) (fun ys => ys = []) (fun _ => False) 0 w := fun l J Jx W hW _ _ hY h0 => by
  refine CallsIn.mono (back_nil F n hF hro l Bn a c W ((hW.cell (p := ⟨Bn, 0, none⟩) hBn).trans hc)) ?_
  rintro e W' ⟨h1, rfl⟩
  exact ⟨h1, .inl ⟨[], rfl, h0⟩⟩

set_option maxRecDepth 100000 in
set_option maxHeartbeats 2000000 in
theorem want_in (F : Fence) (n : Nat) (h5 : F.fn 205) (h9 : F.fn 289) (h4 : F.fn 334) (hro : F.round = none) (hn : 3 ≤ n) (p : Option Addr) (a : Option Addr) (c : Nat) (w : World) :
    CallsIn F n Tryz.prog 205 #[.pointer p, .slice a 0 c] w fun e W' => e = .returned (.int .i64 0) ∧ Below w.heap.size w W' := by
  have h1 : 1 ≤ n := by omega
  refine callsIn_of_wp_marks Tryz.func205 rfl h5 ?_ hro
  simp only [Tryz.ntmps205, List.size_toArray, List.length_cons, List.length_nil, Nat.reduceAdd, Nat.reduceSub, Array.replicate_succ, Array.replicate_zero, List.push_toArray, List.append_toArray, List.nil_append, List.cons_append]
  gi_wp2_with (gi_at_call 289; refine (backward_in F (n - 1) h9 hro _ rfl rfl _).mono ?_; rintro e w' ⟨rfl, rfl⟩)
  have hs := kcell_new w (.pointer p) 382
  have hr := kcell_new (w.alloc (.cells #[.pointer p] 382)) (.int .i64 0) 35
  have hb := kcell_new ((w.alloc (.cells #[.pointer p] 382)).alloc (.cells #[.int .i64 0] 35)) (.slice a 0 c) 22
  simp only [World.size_alloc] at hr hb
  have hB0 : Below w.heap.size w (((w.alloc (.cells #[.pointer p] 382)).alloc (.cells #[.int .i64 0] 35)).alloc (.cells #[.slice a 0 c] 22)) := (((Below.refl _ w).alloc (Nat.le_refl _) _).alloc (by simp) _).alloc (by simp; omega) _
  refine wpIn_rangeFunc_ownF hro h1 (gf := 334) (lb := #[.pointer (some ⟨w.heap.size + 1 + 1, 0, none⟩)]) rfl h4 (enters_of Tryz.func334 (by kernel_rfl) rfl)
    (back_stops F (n - 1) h4 hro (w.heap.size + 1 + 1) a c _ (by simp) hb.1) (fun h k => Below.trans h k) (fun W l o o' _ _ _ _ => ⟨rfl, rfl, rfl, by simp [World.putObj], fun k hk => absurd hk (Nat.not_lt_zero _)⟩) (Below.refl _ _) (fun x => x.elim)
    (fun pre W => (W.cell? ⟨w.heap.size + 1, 0, none⟩ = some (.int .i64 0) ∧ W.frozen? ⟨w.heap.size + 1, 0, none⟩ = false) ∧ Below w.heap.size w W)
    (fun _ _ _ => False)
    (OwnFrom.and (Own.from (fun s A B row hs hg hr => ⟨cell_kept hs.1 hg hr, (frozen_kept hs.1 hg hr).trans hs.2⟩) _) (ownFrom_below (Nat.le_refl _) (by simp; omega)))
    (fun _ _ _ _ _ hs _ _ => hs)
    ⟨⟨kcell_alloc _ hr.1, kfrozen_alloc _ hr.1 hr.2⟩, hB0⟩
    (fun x => x.elim) ?assign ?body ?done ?stop
  case assign =>
    intro l x
    exact x.elim
  case body =>
    intro l pre x
    exact x.elim
  case done =>
    rintro D ys W hD rfl ⟨⟨hc, hf⟩, hB⟩ hK
    gi_wp2
    refine ⟨by simp, .inl ⟨_, _, rfl, run_takeDeferred ((KeepsOthers.setCell _ _ _).same D _ hK rfl), ?_⟩⟩
    have hcell : ((W.setCell ⟨w.heap.size + 1, 0, none⟩ (.int .i64 0)).putObj D (.deferred none)).cell? ⟨w.heap.size + 1, 0, none⟩ = some (.int .i64 0) :=
      cell_kept (World.cell?_setCell_same' _ _ _ (by rw [hc]; rfl)) (grownBy_putObj' _ D (.deferred none)) (fun r e => by cases e; exact ⟨_, (KeepsOthers.setCell _ _ _).same D _ hK rfl, rfl⟩)
    refine ⟨.int .i64 0, by simp [results, Tryz.results205, go_sem, hcell], rfl, (hB.setCell (p := ⟨w.heap.size + 1, 0, none⟩) (by simp) (.int .i64 0)).trans ?_⟩
    exact (Below.refl _ _).grown (grownBy_putObj' _ D (.deferred none)) (by have := hB.size; simp [World.setCell]; exact this) (fun k e => by cases e; simp at hD; omega)
  case stop =>
    rintro D c pre W _ _ h _
    exact h.elim

theorem want_calls (p : Option Addr) (a : Option Addr) (c : Nat) (w : World) :
    Calls Tryz.prog 205 #[.pointer p, .slice a 0 c] w fun e W' => e = .returned (.int .i64 0) ∧ Below w.heap.size w W' :=
  (callsIn_wide (n := 3)).1 (want_in Fence.wide 3 trivial trivial trivial rfl (Nat.le_refl _) p a c w)
#print axioms want_calls
end Go.Proofs
end
