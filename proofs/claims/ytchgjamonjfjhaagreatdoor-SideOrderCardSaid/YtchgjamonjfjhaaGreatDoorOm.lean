/-
  The law avocet/avocetlaw12.SideOrder answers true at every list of jumps that can be read as data, and the list reads afterwards as before: the tied card SideOrderCardSaid. Conditions: the package variables avocet/instr.spans and avocet/instr.rows begin as the program's text lays them (tied by the card).
-/
import Derived.Test.YtchgjamonjfjhaaGreatDoorOk
set_option linter.unusedSimpArgs false
set_option linter.unusedVariables false
section
set_option maxRecDepth 100000
set_option maxHeartbeats 20000000
namespace Go.Proofs.YtchgjamonjfjhaaGreatDoor
open Go.ChangeShapes Go.WideShapes Go.ChangeAt Go.RowKit Go.Aw
theorem inst6 : Tryz.f6.isInstance Tryz.pinned.checked.prog Rows.sideOrderRow.origin Rows.sideOrderRow.targs := of_decide_eq_true (by as_aux_lemma => kernel_rfl)
theorem wrap6 : Tryz.f6.isWrapper Tryz.pinned.checked.prog Rows.sideOrderRow.wrapper Rows.sideOrderRow.mainSum := by
  unfold Func.isWrapper
  first | (rw [if_pos (by decide +kernel)]; as_aux_lemma => kernel_rfl) | (rw [if_neg (by decide +kernel)]; exact ⟨rfl, rfl⟩)
theorem said6 : Rows.SideOrderSaid :=
  OpenClaim.holds_of_cond 6 Tryz.f6 rfl rfl rfl rfl rfl rfl rfl ⟨rfl, rfl, rfl, rfl, rfl⟩ rfl rfl rfl rfl rfl named6 Tryz.func6 facts6 inst6 wrap6
    (fun os started H enc _ F => by rw [OpenClaim.pre_eq_preRow]; exact lifted6 os started H enc F)
#print axioms said6
/-- The tied card. -/
theorem sideOrder_card : Rows.SideOrderCardSaid :=
  Claim7.holds_tied_plain_at .later [] _ _ _ _ said6 (fun _ h => by cases h) (by as_aux_lemma => kernel_rfl) (fun _ h => by cases h) sideOrder_row_tie rfl ⟨rfl, rfl⟩ (by as_aux_lemma => kernel_rfl) rfl
    (fun f fn hf hfn => by
      obtain rfl : f = 6 := Option.some.inj ((show Tryz.prog.funcNamed "avocet/avocetlaw12.SideOrder" = some 6 from named6).symm.trans hf) |>.symm
      obtain rfl : fn = Tryz.f6 := (Option.some.inj (Tryz.func6.symm.trans hfn)).symm
      exact ⟨by as_aux_lemma => kernel_rfl, fun j t ht => by
        rw [Tryz.params6] at ht
        obtain rfl : t = 71 := by simpa using Array.mem_of_getElem? ht
        exact (show Tryz.prog.wantsStandIn 71 = false by as_aux_lemma => kernel_rfl)⟩)
    (by as_aux_lemma => kernel_rfl)
#print axioms sideOrder_card
end Go.Proofs.YtchgjamonjfjhaaGreatDoor
end
