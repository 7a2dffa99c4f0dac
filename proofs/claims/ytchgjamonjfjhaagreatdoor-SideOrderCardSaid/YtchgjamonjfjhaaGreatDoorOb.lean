/-
  A part of the proof of SideOrderCardSaid (see the last text, Om): no statement of its own, no condition.
-/
import Derived.Test.YtchgjamonjfjhaaGreatDoorOa
import Derived.Test.YtchgjamonjfjhaaGreatDoorLa
set_option linter.unusedSimpArgs false
set_option linter.unusedVariables false
section
set_option linter.unusedSimpArgs false
set_option linter.unusedVariables false
set_option maxRecDepth 100000
set_option maxHeartbeats 1000000
namespace Go.Aw
open Go.Proofs Go.So
abbrev srt (l : List J4) : List J4 := srtK Prod.fst l
noncomputable def I283 (n : Nat) (A S C : List J4) (i : Nat) : St :=
  ⟨[(1, .int .i64 A.length), (2, .int .i64 (A.length + S.length : Nat)), (3, .ptr 2 0), (6, .int .i64 (A.length + i : Nat))], smN n (A ++ srt (S.take i) ++ S.drop i ++ C) [lswC n]⟩
noncomputable def I283b (n : Nat) (A S C : List J4) (i : Nat) (x : J4) (S1 S2 : List J4) : St :=
  ⟨[(1, .int .i64 A.length), (2, .int .i64 (A.length + S.length : Nat)), (3, .ptr 2 0), (6, .int .i64 (A.length + i : Nat)), (7, .int .i64 (A.length + S1.length : Nat))], smN n (A ++ S1 ++ x :: S2 ++ S.drop (i + 1) ++ C) [lswC n]⟩
/-- insertionSort -/
theorem ctr_insertion {n : Nat} (A S C : List J4) (hn : A.length + S.length + C.length = n) (h6 : n ≤ 1000000) :
    Ctr Tryz.prog 283 [lswA n, .int .i64 A.length, .int .i64 (A.length + S.length : Nat)] (smN n (A ++ S ++ C) []) (.ret (.tup [])) (smN n (A ++ srt S ++ C) []) := by
  refine ctr_of (rs := []) (nt := 35) Tryz.func283 rfl rfl (enters_of Tryz.func283 rfl (by decide)) rfl (by decide) (by simp) (by simp [smN]) ?_
  refine AWc_reg (fun K hK => ?_)
  first | refine ec_boxR rfl rfl ?_ | refine ec_box rfl rfl rfl ?_
  refine ec_end (fun fr0 he => hK _ _ _ ?_ he)
  clear he fr0 hK K
  refine AWc_reg (fun K hK => ?_)
  first | refine ec_move rfl rfl rfl ?_ | refine ec_moveO rfl rfl rfl ?_
  refine ec_add rfl rfl rfl (by omega) (by omega) ?_
  first | refine ec_asg rfl rfl rfl ?_ | refine ec_asgO rfl rfl rfl ?_
  refine ec_end (fun fr0 he => hK _ _ _ ?_ he)
  clear he fr0 hK K
  apply AW_block
  refine AW_loopw (T := Nat) (fun i => 1 ≤ i ∧ (i ≤ S.length ∨ i = 1)) (I283 n A S C) (fun i => S.length - i) 1 ⟨Nat.le_refl _, .inr rfl⟩ (leFr_cons rfl (.refl _) (leFr_cons rfl (.refl _) (leFr_cons rfl (.refl _) (leFr_cons rfl (wk_int (by first | omega | (simp; omega) | (simp; done))) trivial)))) (by show _ = smN n (A ++ srt (S.take 1) ++ S.drop 1 ++ C) [lswC n]; rw [show A ++ srt (S.take 1) ++ S.drop 1 ++ C = A ++ S ++ C from by rw [srt, srt_take1, List.append_assoc A, List.take_append_drop]]; rfl) (ptr_own (by simp [frPtrs, AV.ptrs])) ?_
  intro i hi
  unfold I283
  apply AW_seq
  refine AWc_reg (fun K hK => ?_)
  first | refine ec_move rfl rfl rfl ?_ | refine ec_moveO rfl rfl rfl ?_
  first | refine ec_move rfl rfl rfl ?_ | refine ec_moveO rfl rfl rfl ?_
  refine ec_bin rfl rfl rfl rfl ?_
  refine ec_end (fun fr0 he => hK _ _ _ ?_ he)
  clear he fr0 hK K
  refine AWc_iff rfl (fun hc => ?_) (fun hc => ?_)
  · skip
    have hlt : i < S.length := by have := of_decide_eq_true hc; omega
    obtain ⟨x, hx⟩ : ∃ x, S[i]? = some x := ⟨_, List.getElem?_eq_getElem hlt⟩
    have hdrop : S.drop i = x :: S.drop (i + 1) := by rw [List.drop_eq_getElem_cons hlt]; congr 1; have := List.getElem?_eq_getElem hlt; rw [hx] at this; injection this with this; exact this.symm
    apply AW_skip
    repeat (with_reducible (first | refine q_norm_then ?_ | refine q_norm_block ?_))
    apply AW_seq
    apply AW_block
    refine AWc_reg (fun K hK => ?_)
    first | refine ec_move rfl rfl rfl ?_ | refine ec_moveO rfl rfl rfl ?_
    first | refine ec_asg rfl rfl rfl ?_ | refine ec_asgO rfl rfl rfl ?_
    refine ec_end (fun fr0 he => hK _ _ _ ?_ he)
    clear he fr0 hK K
    apply AW_block
    refine AW_loopw (T := List J4 × List J4) (fun t => t.1 ++ t.2 = srt (S.take i) ∧ ∀ y, y ∈ t.2 → x.1 < y.1) (fun t => I283b n A S C i x t.1 t.2) (fun t => t.1.length) (srt (S.take i), []) ⟨by simp, (fun _ h => by cases h)⟩ (leFr_cons rfl (.refl _) (leFr_cons rfl (.refl _) (leFr_cons rfl (.refl _) (leFr_cons rfl (.refl _) (leFr_cons rfl (wk_int (by simp only [srt, srtK_length, List.length_take]; omega)) trivial))))) (by show _ = smN n (A ++ srt (S.take i) ++ x :: [] ++ S.drop (i + 1) ++ C) [lswC n]; rw [hdrop]; simp) (ptr_own (by simp [frPtrs, AV.ptrs])) ?_
    rintro ⟨S1, S2⟩ ⟨hs, hgt⟩
    show AW _ _ _ _ _ (I283b n A S C i x S1 S2)
    simp only at hs hgt
    have hsl : S1.length + S2.length = i := by have := congrArg List.length hs; rw [srt, srtK_length] at this; simp at this; omega
    have hL : (A ++ S1 ++ x :: S2 ++ S.drop (i + 1) ++ C).length = n := by simp; omega
    have hsrt : Srt Prod.fst (S1 ++ S2) := by rw [hs]; exact (srtK_ok _).1
    unfold I283b
    apply AW_seq
    refine AWc_reg (fun K hK => ?_)
    first | refine ec_move rfl rfl rfl ?_ | refine ec_moveO rfl rfl rfl ?_
    first | refine ec_move rfl rfl rfl ?_ | refine ec_moveO rfl rfl rfl ?_
    refine ec_bin rfl rfl rfl rfl ?_
    first | refine ec_move rfl rfl rfl ?_ | refine ec_moveO rfl rfl rfl ?_
    refine ec_grd rfl rfl (by simp [dstLt]) (fun hg => ?_) (fun hg => ?_)
    · skip
      have hpos : 0 < S1.length := by have := of_decide_eq_true hg; omega
      obtain ⟨T, y, hS1⟩ := last_of hpos
      have hT : S1.length = T.length + 1 := by rw [hS1]; simp
      refine ec_fieldAddr td313 rfl rfl rfl rfl rfl ?_
      refine ec_grdT rfl rfl ?_
      first | refine ec_load rfl ti198 rfl rfl rfl rfl rfl ?_ | refine ec_loadE rfl ti198 rfl rfl rfl ?_ | refine ec_loadO rfl ti198 rfl rfl rfl rfl rfl ?_ | refine ec_loadR rfl ti198 rfl rfl (by decide) (by first | decide | simp [lswC]) rfl ?_ | refine ec_loadER rfl ti198 rfl (by first | decide | simp [lswC]) rfl ?_
      refine ec_grdT rfl rfl ?_
      first | refine ec_move rfl rfl rfl ?_ | refine ec_moveO rfl rfl rfl ?_
      refine ec_grdT rfl rfl ?_
      first | refine ec_move rfl rfl rfl ?_ | refine ec_moveO rfl rfl rfl ?_
      refine ec_grdT rfl rfl ?_
      refine ec_sub rfl rfl rfl (by omega) (by omega) ?_
      refine ec_grdT rfl rfl ?_
      apply ec_less hL
      case hf => exact rfl
      case ha => exact rfl
      case h0 => omega
      case h1 => omega
      case hx => exact (getm (P := A ++ S1) (z := x) (R := S2 ++ S.drop (i + 1) ++ C) (by simp) (by simp; omega))
      case hy => exact (getm (P := A ++ T) (z := y) (R := x :: (S2 ++ S.drop (i + 1) ++ C)) (by rw [hS1]; simp) (by simp; omega))
      case hd => exact rfl
      intro acc'
      first | refine ec_pickT rfl rfl rfl ?_ | refine ec_pickF rfl rfl rfl ?_
      refine ec_end (fun fr0 he => hK _ _ _ ?_ he)
      clear he fr0 hK K
      refine AWc_iff rfl (fun hc => ?_) (fun hc => ?_)
      · skip
        have hlt2 : x.1 < y.1 := of_decide_eq_true hc
        apply AW_skip
        repeat (with_reducible (first | refine q_norm_then ?_ | refine q_norm_block ?_))
        apply AW_seq
        apply AW_block
        refine AWc_reg1 (by repeat (with_reducible (first | exact qv_then | exact qv_loop | exact qv_join | exact qv_end | refine qv_block ?_))) (fun K hK => ?_)
        refine ec_fieldAddr td313 rfl rfl rfl rfl rfl ?_
        first | refine ec_load rfl ti262 rfl rfl rfl rfl rfl ?_ | refine ec_loadE rfl ti262 rfl rfl rfl ?_ | refine ec_loadO rfl ti262 rfl rfl rfl rfl rfl ?_ | refine ec_loadR rfl ti262 rfl rfl (by decide) (by first | decide | simp [lswC]) rfl ?_ | refine ec_loadER rfl ti262 rfl (by first | decide | simp [lswC]) rfl ?_
        first | refine ec_move rfl rfl rfl ?_ | refine ec_moveO rfl rfl rfl ?_
        first | refine ec_move rfl rfl rfl ?_ | refine ec_moveO rfl rfl rfl ?_
        refine ec_sub rfl rfl rfl (by omega) (by omega) ?_
        apply ec_swap hL
        case hf => exact rfl
        case ha => exact rfl
        case h0 => omega
        case h1 => omega
        case hi => omega
        case hj => omega
        case hd => exact rfl
        intro acc'
        refine ec_end (fun fr0 he => hK _ _ _ ?_ he)
        clear he fr0 hK K
        repeat (with_reducible (first | refine q_norm_then ?_ | refine q_norm_block ?_))
        refine AWc_reg1 (by repeat (with_reducible (first | exact qv_then | exact qv_loop | exact qv_join | exact qv_end | refine qv_block ?_))) (fun K hK => ?_)
        first | refine ec_move rfl rfl rfl ?_ | refine ec_moveO rfl rfl rfl ?_
        refine ec_sub rfl rfl rfl (by omega) (by omega) ?_
        first | refine ec_asg rfl rfl rfl ?_ | refine ec_asgO rfl rfl rfl ?_
        refine ec_end (fun fr0 he => hK _ _ _ ?_ he)
        clear he fr0 hK K
        repeat (with_reducible (first | refine q_norm_then ?_ | refine q_norm_block ?_))
        refine loop_onw (t' := (T, y :: S2)) ⟨by rw [← hs, hS1]; simp, gt_cons hgt hlt2⟩ (by simp only [hS1]; simp) (leFr_cons rfl (.refl _) (leFr_cons rfl (.refl _) (leFr_cons rfl (.refl _) (leFr_cons rfl (.refl _) (leFr_cons rfl (wk_int (by rw [hS1]; simp; omega)) trivial))))) (by show _ = smN n (A ++ T ++ x :: (y :: S2) ++ S.drop (i + 1) ++ C) [lswC n]; rw [swpm (X := A ++ T) (Y := S2 ++ S.drop (i + 1) ++ C) (u := y) (v := x) (by rw [hS1]; simp) (by rw [hS1]; simp; omega) (by rw [hS1]; simp; omega)]; simp) (ptr_own (by simp [frPtrs, AV.ptrs]))
      · skip
        have hge2 : y.1 ≤ x.1 := by have := of_decide_eq_false hc; omega
        have hfin : srt (S.take (i + 1)) = S1 ++ x :: S2 := ins_fin hx hs (by rw [hS1] at hsrt ⊢; exact le_last hsrt hge2) hgt
        apply AW_exit
        repeat (with_reducible (first | refine q_exit_then ?_ | refine q_exit_loop ?_ | refine q_exit_block ?_ | refine q_exit_join ?_ | refine q_exit_other (by decide) ?_))
        repeat (with_reducible (first | refine q_norm_then ?_ | refine q_norm_block ?_))
        repeat (with_reducible (first | refine q_norm_then ?_ | refine q_norm_block ?_))
        refine AWc_reg1 (by repeat (with_reducible (first | exact qv_then | exact qv_loop | exact qv_join | exact qv_end | refine qv_block ?_))) (fun K hK => ?_)
        first | refine ec_move rfl rfl rfl ?_ | refine ec_moveO rfl rfl rfl ?_
        refine ec_add rfl rfl rfl (by omega) (by omega) ?_
        first | refine ec_asg rfl rfl rfl ?_ | refine ec_asgO rfl rfl rfl ?_
        refine ec_end (fun fr0 he => hK _ _ _ ?_ he)
        clear he fr0 hK K
        repeat (with_reducible (first | refine q_norm_then ?_ | refine q_norm_block ?_))
        refine loop_onw (t' := i + 1) ⟨by omega, .inl (by omega)⟩ (by omega) (leFr_cons rfl (.refl _) (leFr_cons rfl (.refl _) (leFr_cons rfl (.refl _) (leFr_cons rfl (wk_int (by first | omega | (simp; omega) | (simp; done))) trivial)))) (by show _ = smN n (A ++ srt (S.take (i + 1)) ++ S.drop (i + 1) ++ C) [lswC n]; rw [hfin]; simp) (ptr_own (by simp [frPtrs, AV.ptrs]))
    · skip
      have hzero : S1 = [] := by have := of_decide_eq_false hg; exact List.length_eq_zero_iff.1 (by omega)
      have hfin : srt (S.take (i + 1)) = S1 ++ x :: S2 := ins_fin hx hs (by rw [hzero]; intro _ h; cases h) hgt
      refine ec_grdF rfl rfl rfl (by simp [dstLt]) ?_
      refine ec_grdF rfl rfl rfl (by simp [dstLt]) ?_
      refine ec_grdF rfl rfl rfl (by simp [dstLt]) ?_
      refine ec_grdF rfl rfl rfl (by simp [dstLt]) ?_
      refine ec_grdF rfl rfl rfl (by simp [dstLt]) ?_
      first | refine ec_pickT rfl rfl rfl ?_ | refine ec_pickF rfl rfl rfl ?_
      refine ec_end (fun fr0 he => hK _ _ _ ?_ he)
      clear he fr0 hK K
      refine AWc_ifF rfl ?_
      apply AW_exit
      repeat (with_reducible (first | refine q_exit_then ?_ | refine q_exit_loop ?_ | refine q_exit_block ?_ | refine q_exit_join ?_ | refine q_exit_other (by decide) ?_))
      repeat (with_reducible (first | refine q_norm_then ?_ | refine q_norm_block ?_))
      repeat (with_reducible (first | refine q_norm_then ?_ | refine q_norm_block ?_))
      refine AWc_reg1 (by repeat (with_reducible (first | exact qv_then | exact qv_loop | exact qv_join | exact qv_end | refine qv_block ?_))) (fun K hK => ?_)
      first | refine ec_move rfl rfl rfl ?_ | refine ec_moveO rfl rfl rfl ?_
      refine ec_add rfl rfl rfl (by omega) (by omega) ?_
      first | refine ec_asg rfl rfl rfl ?_ | refine ec_asgO rfl rfl rfl ?_
      refine ec_end (fun fr0 he => hK _ _ _ ?_ he)
      clear he fr0 hK K
      repeat (with_reducible (first | refine q_norm_then ?_ | refine q_norm_block ?_))
      refine loop_onw (t' := i + 1) ⟨by omega, .inl (by omega)⟩ (by omega) (leFr_cons rfl (.refl _) (leFr_cons rfl (.refl _) (leFr_cons rfl (.refl _) (leFr_cons rfl (wk_int (by first | omega | (simp; omega) | (simp; done))) trivial)))) (by show _ = smN n (A ++ srt (S.take (i + 1)) ++ S.drop (i + 1) ++ C) [lswC n]; rw [hfin]; simp) (ptr_own (by simp [frPtrs, AV.ptrs]))
  · skip
    have hge : S.length ≤ i := by have := of_decide_eq_false hc; omega
    apply AW_exit
    repeat (with_reducible (first | refine q_exit_then ?_ | refine q_exit_loop ?_ | refine q_exit_block ?_ | refine q_exit_join ?_ | refine q_exit_other (by decide) ?_))
    repeat (with_reducible (first | refine q_norm_then ?_ | refine q_norm_block ?_))
    repeat (with_reducible (first | refine q_norm_then ?_ | refine q_norm_block ?_))
    refine end_ret (.inr rfl) rfl (.refl _) ?_ (by simp [smN])
    have hd : S.drop i = [] := List.drop_eq_nil_of_le hge
    have ht : S.take i = S := List.take_of_length_le hge
    rw [hd, ht, List.append_nil]; exact leMem_smN _ _ _
end Go.Aw
end
section
set_option linter.unusedSimpArgs false
set_option linter.unusedVariables false
set_option maxRecDepth 100000
set_option maxHeartbeats 1000000
namespace Go.Aw
open Go.Proofs Go.So
structure Hid (p : Prop) : Prop where
  out : p
theorem wk_bool {a b : Bool} (h : a = b) : Wk (.bool a) (.bool b) := by subst h; exact .refl _
theorem ec_eqv {P : Program} [GT P] {nt : Nat} {all rest : List Oper} {fr : List (Nat × AV)} {mem : List (List AV)} {acc : List Fp} {K : List Fp → St → Prop} {KP : List Fp → AV → St → Prop} {d : Nat} {v v' : AV} (h : v = v')
    (h2 : EVc P nt all rest ((d, v') :: fr) mem acc K KP) : EVc P nt all rest ((d, v) :: fr) mem acc K KP := by subst h; exact h2
theorem half_av (x : Int) (m : Nat) (h0 : 0 ≤ x) (h1 : x ≤ 100000000) (hm : x / 2 = m) : (.int .i64 (IntKind.i64.wrap ((IntKind.u64.wrap x).fdiv (2 ^ (min (Int.toNat 1) IntKind.u64.bits)))) : AV) = .int .i64 (m : Int) := by
  have e1 : IntKind.u64.wrap x = x := by rw [IntKind.wrap_u64]; omega
  have e2 : min (Int.toNat 1) IntKind.u64.bits = 1 := by decide
  rw [e1, e2, Int.pow_one, Int.fdiv_eq_ediv_of_nonneg _ (by omega), hm]
  have e3 : IntKind.i64.wrap (m : Int) = m := by rw [IntKind.wrap_i64]; omega
  rw [e3]
def Inv284a (A V C : List J4) (u : J4) (i j : Nat) : Prop := A.length + 1 ≤ i ∧ i ≤ j ∧ j ≤ A.length + 1 + V.length ∧ (i = A.length + 1 ∨ ∃ x, (A ++ [u] ++ V ++ C)[i - 1]? = some x ∧ x.1 < u.1) ∧ (j = A.length + 1 + V.length ∨ ∃ x, (A ++ [u] ++ V ++ C)[j]? = some x ∧ ¬ x.1 < u.1)
noncomputable def I284a (n : Nat) (A V C : List J4) (u : J4) (i j : Nat) : St :=
  ⟨[(1, .int .i64 A.length), (2, .int .i64 (A.length + 1 : Nat)), (3, .int .i64 (A.length + 1 + V.length : Nat)), (4, .ptr 2 0), (8, .int .i64 i), (9, .int .i64 j)], smN n (A ++ [u] ++ V ++ C) [lswC n]⟩
noncomputable def I284b (n : Nat) (A V C : List J4) (u : J4) (i q : Nat) : St :=
  ⟨[(1, .int .i64 A.length), (2, .int .i64 (A.length + 1 : Nat)), (4, .ptr 2 0), (8, .int .i64 i), (11, .int .i64 (A.length + q : Nat))], smN n (A ++ V.take q ++ u :: V.drop q ++ C) [lswC n]⟩
def Inv284c (A U C : List J4) (v : J4) (i j : Nat) : Prop := A.length ≤ i ∧ i ≤ j ∧ j ≤ A.length + U.length ∧ (i = A.length ∨ ∃ x, (A ++ U ++ [v] ++ C)[i - 1]? = some x ∧ ¬ v.1 < x.1) ∧ (j = A.length + U.length ∨ ∃ x, (A ++ U ++ [v] ++ C)[j]? = some x ∧ v.1 < x.1)
noncomputable def I284c (n : Nat) (A U C : List J4) (v : J4) (i j : Nat) : St :=
  ⟨[(1, .int .i64 A.length), (2, .int .i64 (A.length + U.length : Nat)), (3, .int .i64 (A.length + U.length + 1 : Nat)), (4, .ptr 2 0), (12, .int .i64 i), (13, .int .i64 j)], smN n (A ++ U ++ [v] ++ C) [lswC n]⟩
noncomputable def I284d (n : Nat) (A U C : List J4) (v : J4) (i q : Nat) : St :=
  ⟨[(1, .int .i64 A.length), (2, .int .i64 (A.length + U.length : Nat)), (4, .ptr 2 0), (12, .int .i64 i), (15, .int .i64 (A.length + q : Nat))], smN n (A ++ U.take q ++ v :: U.drop q ++ C) [lswC n]⟩
noncomputable def I284j (n : Nat) (A U V C : List J4) (mid lo hi : Nat) : St :=
  ⟨[(1, .int .i64 A.length), (2, .int .i64 (A.length + U.length : Nat)), (3, .int .i64 (A.length + U.length + V.length : Nat)), (4, .ptr 2 0), (16, .int .i64 mid), (17, .int .i64 (mid + (A.length + U.length) : Nat)), (18, .int .i64 lo), (19, .int .i64 hi)], smN n (A ++ U ++ V ++ C) [lswC n]⟩
def Inv284e (A U V C : List J4) (mid lo hi s r : Nat) : Prop := lo ≤ s ∧ s ≤ r ∧ r ≤ hi ∧ (s = lo ∨ ∃ x y, (A ++ U ++ V ++ C)[mid + (A.length + U.length) - 1 - (s - 1)]? = some x ∧ (A ++ U ++ V ++ C)[s - 1]? = some y ∧ ¬ x.1 < y.1) ∧
  (r = hi ∨ ∃ x y, (A ++ U ++ V ++ C)[mid + (A.length + U.length) - 1 - r]? = some x ∧ (A ++ U ++ V ++ C)[r]? = some y ∧ x.1 < y.1)
noncomputable def I284e (n : Nat) (A U V C : List J4) (mid s r : Nat) : St :=
  ⟨[(1, .int .i64 A.length), (2, .int .i64 (A.length + U.length : Nat)), (3, .int .i64 (A.length + U.length + V.length : Nat)), (4, .ptr 2 0), (16, .int .i64 mid), (17, .int .i64 (mid + (A.length + U.length) : Nat)), (18, .int .i64 s), (19, .int .i64 r), (20, .int .i64 (mid + (A.length + U.length) - 1 : Nat))], smN n (A ++ U ++ V ++ C) [lswC n]⟩
noncomputable def I284k (n : Nat) (A U V C : List J4) (mid s : Nat) (b : Bool) : St :=
  ⟨[(1, .int .i64 A.length), (2, .int .i64 (A.length + U.length : Nat)), (3, .int .i64 (A.length + U.length + V.length : Nat)), (4, .ptr 2 0), (16, .int .i64 mid), (18, .int .i64 s), (22, .int .i64 (mid + (A.length + U.length) - s : Nat)), (145, .bool b)], smN n (A ++ U ++ V ++ C) [lswC n]⟩
noncomputable def I284l (n : Nat) (A U V C : List J4) (mid s : Nat) (L : List J4) : St :=
  ⟨[(1, .int .i64 A.length), (3, .int .i64 (A.length + U.length + V.length : Nat)), (4, .ptr 2 0), (16, .int .i64 mid), (18, .int .i64 s), (22, .int .i64 (mid + (A.length + U.length) - s : Nat))], smN n L [lswC n]⟩
noncomputable def I284m (n : Nat) (A U V C : List J4) (mid s : Nat) (L : List J4) (b : Bool) : St :=
  ⟨[(1, .int .i64 A.length), (3, .int .i64 (A.length + U.length + V.length : Nat)), (4, .ptr 2 0), (16, .int .i64 mid), (18, .int .i64 s), (22, .int .i64 (mid + (A.length + U.length) - s : Nat)), (158, .bool b)], smN n L [lswC n]⟩
noncomputable def I284o (n : Nat) (A U V C : List J4) (mid s : Nat) (L : List J4) : St :=
  ⟨[(3, .int .i64 (A.length + U.length + V.length : Nat)), (4, .ptr 2 0), (16, .int .i64 mid), (22, .int .i64 (mid + (A.length + U.length) - s : Nat))], smN n L [lswC n]⟩
noncomputable def I284p (n : Nat) (A U V C : List J4) (mid s : Nat) (L : List J4) (b : Bool) : St :=
  ⟨[(3, .int .i64 (A.length + U.length + V.length : Nat)), (4, .ptr 2 0), (16, .int .i64 mid), (22, .int .i64 (mid + (A.length + U.length) - s : Nat)), (171, .bool b)], smN n L [lswC n]⟩
/-- symMerge -/
theorem ctr_symMerge {n : Nat} (h6 : n ≤ 1000000) : ∀ (k : Nat) (A U V C : List J4), U.length + V.length ≤ k → 0 < U.length → 0 < V.length → Srt Prod.fst U → Srt Prod.fst V → A.length + U.length + V.length + C.length = n →
    Ctr Tryz.prog 284 [lswA n, .int .i64 A.length, .int .i64 (A.length + U.length : Nat), .int .i64 (A.length + U.length + V.length : Nat)] (smN n (A ++ U ++ V ++ C) []) (.ret (.tup [])) (smN n (A ++ srt (U ++ V) ++ C) []) := by
  intro k
  induction k with
  | zero => intro A U V C hk hU0; omega
  | succ k ih =>
  intro A U V C hk hU0 hV0 hU hV hn
  have hlt6 : A.length + U.length + V.length ≤ 1000000 := by omega
  refine ctr_of (rs := []) (nt := 177) Tryz.func284 rfl rfl (enters_of Tryz.func284 rfl (by decide)) rfl (by decide) (by simp) (by simp [smN]) ?_
  refine AWc_reg (fun K hK => ?_)
  first | refine ec_boxR rfl rfl ?_ | refine ec_box rfl rfl rfl ?_
  refine ec_end (fun fr0 he => hK _ _ _ ?_ he)
  clear he fr0 hK K
  apply AW_seq
  refine AWc_reg (fun K hK => ?_)
  first | refine ec_move rfl rfl rfl ?_ | refine ec_moveO rfl rfl rfl ?_
  first | refine ec_move rfl rfl rfl ?_ | refine ec_moveO rfl rfl rfl ?_
  refine ec_sub rfl rfl rfl (by omega) (by omega) ?_
  refine ec_bin rfl rfl rfl rfl ?_
  refine ec_end (fun fr0 he => hK _ _ _ ?_ he)
  clear he fr0 hK K
  refine AWc_iff rfl (fun hc => ?_) (fun hc => ?_)
  · skip
    have hu1 : (((A.length + U.length : Nat) : Int) - (A.length : Int)) = 1 := by simpa using hc
    obtain ⟨u, rfl⟩ : ∃ u, U = [u] := List.length_eq_one_iff.1 (by omega)
    clear hu1
    have hL : (A ++ [u] ++ V ++ C).length = n := by simp at hn ⊢; omega
    simp only [List.length_cons, List.length_nil] at hn hlt6
    refine AWc_reg (fun K hK => ?_)
    first | refine ec_move rfl rfl rfl ?_ | refine ec_moveO rfl rfl rfl ?_
    first | refine ec_asg rfl rfl rfl ?_ | refine ec_asgO rfl rfl rfl ?_
    refine ec_end (fun fr0 he => hK _ _ _ ?_ he)
    clear he fr0 hK K
    refine AWc_reg (fun K hK => ?_)
    first | refine ec_move rfl rfl rfl ?_ | refine ec_moveO rfl rfl rfl ?_
    first | refine ec_asg rfl rfl rfl ?_ | refine ec_asgO rfl rfl rfl ?_
    refine ec_end (fun fr0 he => hK _ _ _ ?_ he)
    clear he fr0 hK K
    apply AW_seq
    apply AW_block
    refine AW_loopw (T := Nat × Nat) (fun t => Inv284a A V C u t.1 t.2) (fun t => I284a n A V C u t.1 t.2) (fun t => t.2 - t.1) (A.length + 1, A.length + 1 + V.length) ⟨by omega, by omega, by omega, .inl rfl, .inl rfl⟩ (leFr_cons rfl (.refl _) (leFr_cons rfl (wk_int (by first | omega | (simp; omega) | (simp; done))) (leFr_cons rfl (wk_int (by first | omega | (simp; omega) | (simp; done))) (leFr_cons rfl (.refl _) (leFr_cons rfl (wk_int (by first | omega | (simp; omega) | (simp; done))) (leFr_cons rfl (wk_int (by first | omega | (simp; omega) | (simp; done))) trivial)))))) (by show _ = smN n (A ++ [u] ++ V ++ C) [lswC n]; rfl) (ptr_own (by simp [frPtrs, AV.ptrs])) ?_
    rintro ⟨i, j⟩ ⟨hi1, hi2, hi3, P1, P2⟩
    show AW _ _ _ _ _ (I284a n A V C u i j)
    simp only at hi1 hi2 hi3 P1 P2
    unfold I284a
    apply AW_seq
    refine AWc_reg (fun K hK => ?_)
    first | refine ec_move rfl rfl rfl ?_ | refine ec_moveO rfl rfl rfl ?_
    first | refine ec_move rfl rfl rfl ?_ | refine ec_moveO rfl rfl rfl ?_
    refine ec_bin rfl rfl rfl rfl ?_
    refine ec_end (fun fr0 he => hK _ _ _ ?_ he)
    clear he fr0 hK K
    refine AWc_iff rfl (fun hc => ?_) (fun hc => ?_)
    · skip
      have hij : i < j := by have := of_decide_eq_true hc; omega
      obtain ⟨x, hx⟩ : ∃ x, (A ++ [u] ++ V ++ C)[(i + j) / 2]? = some x := ⟨_, List.getElem?_eq_getElem (by rw [hL]; omega)⟩
      apply AW_skip
      repeat (with_reducible (first | refine q_norm_then ?_ | refine q_norm_block ?_))
      apply AW_block
      refine AWc_reg (fun K hK => ?_)
      first | refine ec_move rfl rfl rfl ?_ | refine ec_moveO rfl rfl rfl ?_
      first | refine ec_move rfl rfl rfl ?_ | refine ec_moveO rfl rfl rfl ?_
      refine ec_add rfl rfl rfl (by omega) (by omega) ?_
      refine ec_convI td3 td261 rfl rfl ?_
      refine ec_bin rfl rfl rfl rfl ?_
      refine ec_convI td261 td3 rfl rfl ?_
      refine ec_eqv (v' := .int .i64 (((i + j) / 2 : Nat) : Int)) (half_av _ _ (by omega) (by omega) (by omega)) ?_
      first | refine ec_asg rfl rfl rfl ?_ | refine ec_asgO rfl rfl rfl ?_
      refine ec_end (fun fr0 he => hK _ _ _ ?_ he)
      clear he fr0 hK K
      refine AWc_reg (fun K hK => ?_)
      refine ec_fieldAddr td313 rfl rfl rfl rfl rfl ?_
      first | refine ec_load rfl ti198 rfl rfl rfl rfl rfl ?_ | refine ec_loadE rfl ti198 rfl rfl rfl ?_ | refine ec_loadO rfl ti198 rfl rfl rfl rfl rfl ?_ | refine ec_loadR rfl ti198 rfl rfl (by decide) (by first | decide | simp [lswC]) rfl ?_ | refine ec_loadER rfl ti198 rfl (by first | decide | simp [lswC]) rfl ?_
      first | refine ec_move rfl rfl rfl ?_ | refine ec_moveO rfl rfl rfl ?_
      first | refine ec_move rfl rfl rfl ?_ | refine ec_moveO rfl rfl rfl ?_
      apply ec_less hL
      case hf => exact rfl
      case ha => exact rfl
      case h0 => omega
      case h1 => omega
      case hx => exact hx
      case hy => exact (getm (P := A) (z := u) (R := V ++ C) (by simp) (by simp))
      case hd => exact rfl
      intro acc'
      refine ec_end (fun fr0 he => hK _ _ _ ?_ he)
      clear he fr0 hK K
      refine AWc_iff rfl (fun hc => ?_) (fun hc => ?_)
      · skip
        refine AWc_reg1 (by repeat (with_reducible (first | exact qv_then | exact qv_loop | exact qv_join | exact qv_end | refine qv_block ?_))) (fun K hK => ?_)
        first | refine ec_move rfl rfl rfl ?_ | refine ec_moveO rfl rfl rfl ?_
        refine ec_add rfl rfl rfl (by omega) (by omega) ?_
        first | refine ec_asg rfl rfl rfl ?_ | refine ec_asgO rfl rfl rfl ?_
        refine ec_end (fun fr0 he => hK _ _ _ ?_ he)
        clear he fr0 hK K
        repeat (with_reducible (first | refine q_norm_then ?_ | refine q_norm_block ?_))
        refine loop_onw (t' := ((i + j) / 2 + 1, j)) ⟨by show _ ≤ (i + j) / 2 + 1; omega, by show (i + j) / 2 + 1 ≤ j; omega, hi3, .inr ⟨x, by show (A ++ [u] ++ V ++ C)[(i + j) / 2 + 1 - 1]? = _; rw [Nat.add_sub_cancel]; exact hx, of_decide_eq_true hc⟩, P2⟩ (by show j - ((i + j) / 2 + 1) < j - i; omega) (leFr_cons rfl (.refl _) (leFr_cons rfl (.refl _) (leFr_cons rfl (.refl _) (leFr_cons rfl (.refl _) (leFr_cons rfl (wk_int (by first | omega | (simp; omega) | (simp; done))) (leFr_cons rfl (.refl _) trivial)))))) rfl (ptr_own (by simp [frPtrs, AV.ptrs]))
      · skip
        refine AWc_reg1 (by repeat (with_reducible (first | exact qv_then | exact qv_loop | exact qv_join | exact qv_end | refine qv_block ?_))) (fun K hK => ?_)
        first | refine ec_move rfl rfl rfl ?_ | refine ec_moveO rfl rfl rfl ?_
        first | refine ec_asg rfl rfl rfl ?_ | refine ec_asgO rfl rfl rfl ?_
        refine ec_end (fun fr0 he => hK _ _ _ ?_ he)
        clear he fr0 hK K
        repeat (with_reducible (first | refine q_norm_then ?_ | refine q_norm_block ?_))
        refine loop_onw (t' := (i, (i + j) / 2)) ⟨hi1, by show i ≤ (i + j) / 2; omega, by show (i + j) / 2 ≤ _; omega, P1, .inr ⟨x, hx, of_decide_eq_false hc⟩⟩ (by show (i + j) / 2 - i < j - i; omega) (leFr_cons rfl (.refl _) (leFr_cons rfl (.refl _) (leFr_cons rfl (.refl _) (leFr_cons rfl (.refl _) (leFr_cons rfl (.refl _) (leFr_cons rfl (.refl _) trivial)))))) rfl (ptr_own (by simp [frPtrs, AV.ptrs]))
    · skip
      have hij : ¬ i < j := by have := of_decide_eq_false hc; omega
      obtain rfl : i = j := by omega
      have hfin := sym_head (key := Prod.fst) (i := i) rfl hV hi1 hi3 P1 P2
      apply AW_exit
      repeat (with_reducible (first | refine q_exit_then ?_ | refine q_exit_loop ?_ | refine q_exit_block ?_ | refine q_exit_join ?_ | refine q_exit_other (by decide) ?_))
      repeat (with_reducible (first | refine q_norm_then ?_ | refine q_norm_block ?_))
      repeat (with_reducible (first | refine q_norm_then ?_ | refine q_norm_block ?_))
      apply AW_seq
      refine AWc_reg (fun K hK => ?_)
      first | refine ec_move rfl rfl rfl ?_ | refine ec_moveO rfl rfl rfl ?_
      first | refine ec_asg rfl rfl rfl ?_ | refine ec_asgO rfl rfl rfl ?_
      refine ec_end (fun fr0 he => hK _ _ _ ?_ he)
      clear he fr0 hK K
      apply AW_block
      refine AW_loopw (T := Nat) (fun q => q ≤ i - (A.length + 1)) (fun q => I284b n A V C u i q) (fun q => i - q) 0 (Nat.zero_le _) (leFr_cons rfl (.refl _) (leFr_cons rfl (.refl _) (leFr_cons rfl (.refl _) (leFr_cons rfl (.refl _) (leFr_cons rfl (wk_int (by first | omega | (simp; omega) | (simp; done))) trivial))))) (by show _ = smN n (A ++ V.take 0 ++ u :: V.drop 0 ++ C) [lswC n]; simp) (ptr_own (by simp [frPtrs, AV.ptrs])) ?_
      intro q hq
      unfold I284b
      have hL2 : (A ++ V.take q ++ u :: V.drop q ++ C).length = n := by simp; omega
      apply AW_seq
      refine AWc_reg (fun K hK => ?_)
      first | refine ec_move rfl rfl rfl ?_ | refine ec_moveO rfl rfl rfl ?_
      first | refine ec_move rfl rfl rfl ?_ | refine ec_moveO rfl rfl rfl ?_
      refine ec_sub rfl rfl rfl (by omega) (by omega) ?_
      refine ec_bin rfl rfl rfl rfl ?_
      refine ec_end (fun fr0 he => hK _ _ _ ?_ he)
      clear he fr0 hK K
      refine AWc_iff rfl (fun hc => ?_) (fun hc => ?_)
      · skip
        have hlt : q < V.length := by have := of_decide_eq_true hc; omega
        have hqi : A.length + q + 1 < i := by have := of_decide_eq_true hc; omega
        apply AW_skip
        repeat (with_reducible (first | refine q_norm_then ?_ | refine q_norm_block ?_))
        apply AW_seq
        apply AW_block
        refine AWc_reg1 (by repeat (with_reducible (first | exact qv_then | exact qv_loop | exact qv_join | exact qv_end | refine qv_block ?_))) (fun K hK => ?_)
        refine ec_fieldAddr td313 rfl rfl rfl rfl rfl ?_
        first | refine ec_load rfl ti262 rfl rfl rfl rfl rfl ?_ | refine ec_loadE rfl ti262 rfl rfl rfl ?_ | refine ec_loadO rfl ti262 rfl rfl rfl rfl rfl ?_ | refine ec_loadR rfl ti262 rfl rfl (by decide) (by first | decide | simp [lswC]) rfl ?_ | refine ec_loadER rfl ti262 rfl (by first | decide | simp [lswC]) rfl ?_
        first | refine ec_move rfl rfl rfl ?_ | refine ec_moveO rfl rfl rfl ?_
        first | refine ec_move rfl rfl rfl ?_ | refine ec_moveO rfl rfl rfl ?_
        refine ec_add rfl rfl rfl (by omega) (by omega) ?_
        apply ec_swap hL2
        case hf => exact rfl
        case ha => exact rfl
        case h0 => omega
        case h1 => omega
        case hi => omega
        case hj => omega
        case hd => exact rfl
        intro acc'
        refine ec_end (fun fr0 he => hK _ _ _ ?_ he)
        clear he fr0 hK K
        repeat (with_reducible (first | refine q_norm_then ?_ | refine q_norm_block ?_))
        refine AWc_reg1 (by repeat (with_reducible (first | exact qv_then | exact qv_loop | exact qv_join | exact qv_end | refine qv_block ?_))) (fun K hK => ?_)
        first | refine ec_move rfl rfl rfl ?_ | refine ec_moveO rfl rfl rfl ?_
        refine ec_add rfl rfl rfl (by omega) (by omega) ?_
        first | refine ec_asg rfl rfl rfl ?_ | refine ec_asgO rfl rfl rfl ?_
        refine ec_end (fun fr0 he => hK _ _ _ ?_ he)
        clear he fr0 hK K
        repeat (with_reducible (first | refine q_norm_then ?_ | refine q_norm_block ?_))
        refine loop_onw (t' := q + 1) (by omega) (by omega) (leFr_cons rfl (.refl _) (leFr_cons rfl (.refl _) (leFr_cons rfl (.refl _) (leFr_cons rfl (.refl _) (leFr_cons rfl (wk_int (by first | omega | (simp; omega) | (simp; done))) trivial))))) (by show _ = smN n (A ++ V.take (q + 1) ++ u :: V.drop (q + 1) ++ C) [lswC n]; rw [swpm' (X := A ++ V.take q) (Y := V.drop (q + 1) ++ C) (u := u) (v := V[q]) (by rw [List.drop_eq_getElem_cons hlt]; simp only [List.append_assoc, List.cons_append, List.nil_append]) (by simp; omega) (by simp; omega), List.take_succ_eq_append_getElem hlt]; simp only [List.append_assoc, List.cons_append, List.nil_append]) (ptr_own (by simp [frPtrs, AV.ptrs]))
      · skip
        have hqe : q = i - (A.length + 1) := by have := of_decide_eq_false hc; omega
        apply AW_exit
        repeat (with_reducible (first | refine q_exit_then ?_ | refine q_exit_loop ?_ | refine q_exit_block ?_ | refine q_exit_join ?_ | refine q_exit_other (by decide) ?_))
        repeat (with_reducible (first | refine q_norm_then ?_ | refine q_norm_block ?_))
        repeat (with_reducible (first | refine q_norm_then ?_ | refine q_norm_block ?_))
        apply AW_ret
        repeat (with_reducible (first | refine q_ret_then ?_ | refine q_ret_loop ?_ | refine q_ret_block ?_ | refine q_ret_join ?_))
        refine end_ret (.inl rfl) rfl (.refl _) ?_ (by simp [smN])
        rw [hqe]; rw [show A ++ srt ([u] ++ V) ++ C = A ++ V.take (i - (A.length + 1)) ++ u :: V.drop (i - (A.length + 1)) ++ C from by rw [srt, hfin]; simp]; exact leMem_smN _ _ _
  · skip
    have hU1 : U.length ≠ 1 := by intro e; have : ¬ (((A.length + U.length : Nat) : Int) - (A.length : Int)) = 1 := (by simpa using hc); omega
    apply AW_skip
    repeat (with_reducible (first | refine q_norm_then ?_ | refine q_norm_block ?_))
    apply AW_seq
    refine AWc_reg (fun K hK => ?_)
    first | refine ec_move rfl rfl rfl ?_ | refine ec_moveO rfl rfl rfl ?_
    first | refine ec_move rfl rfl rfl ?_ | refine ec_moveO rfl rfl rfl ?_
    refine ec_sub rfl rfl rfl (by omega) (by omega) ?_
    refine ec_bin rfl rfl rfl rfl ?_
    refine ec_end (fun fr0 he => hK _ _ _ ?_ he)
    clear he fr0 hK K
    refine AWc_iff rfl (fun hc => ?_) (fun hc => ?_)
    · skip
      have hv1 : (((A.length + U.length + V.length : Nat) : Int) - ((A.length + U.length : Nat) : Int)) = 1 := by simpa using hc
      obtain ⟨v, rfl⟩ : ∃ v, V = [v] := List.length_eq_one_iff.1 (by omega)
      clear hv1
      have hL : (A ++ U ++ [v] ++ C).length = n := by simp at hn ⊢; omega
      simp only [List.length_cons, List.length_nil] at hn hlt6
      refine AWc_reg (fun K hK => ?_)
      first | refine ec_move rfl rfl rfl ?_ | refine ec_moveO rfl rfl rfl ?_
      first | refine ec_asg rfl rfl rfl ?_ | refine ec_asgO rfl rfl rfl ?_
      refine ec_end (fun fr0 he => hK _ _ _ ?_ he)
      clear he fr0 hK K
      refine AWc_reg (fun K hK => ?_)
      first | refine ec_move rfl rfl rfl ?_ | refine ec_moveO rfl rfl rfl ?_
      first | refine ec_asg rfl rfl rfl ?_ | refine ec_asgO rfl rfl rfl ?_
      refine ec_end (fun fr0 he => hK _ _ _ ?_ he)
      clear he fr0 hK K
      apply AW_seq
      apply AW_block
      refine AW_loopw (T := Nat × Nat) (fun t => Inv284c A U C v t.1 t.2) (fun t => I284c n A U C v t.1 t.2) (fun t => t.2 - t.1) (A.length, A.length + U.length) ⟨by omega, by omega, by omega, .inl rfl, .inl rfl⟩ (leFr_cons rfl (.refl _) (leFr_cons rfl (wk_int (by first | omega | (simp; omega) | (simp; done))) (leFr_cons rfl (wk_int (by first | omega | (simp; omega) | (simp; done))) (leFr_cons rfl (.refl _) (leFr_cons rfl (wk_int (by first | omega | (simp; omega) | (simp; done))) (leFr_cons rfl (wk_int (by first | omega | (simp; omega) | (simp; done))) trivial)))))) (by show _ = smN n (A ++ U ++ [v] ++ C) [lswC n]; rfl) (ptr_own (by simp [frPtrs, AV.ptrs])) ?_
      rintro ⟨i, j⟩ ⟨hi1, hi2, hi3, P1, P2⟩
      show AW _ _ _ _ _ (I284c n A U C v i j)
      simp only at hi1 hi2 hi3 P1 P2
      unfold I284c
      apply AW_seq
      refine AWc_reg (fun K hK => ?_)
      first | refine ec_move rfl rfl rfl ?_ | refine ec_moveO rfl rfl rfl ?_
      first | refine ec_move rfl rfl rfl ?_ | refine ec_moveO rfl rfl rfl ?_
      refine ec_bin rfl rfl rfl rfl ?_
      refine ec_end (fun fr0 he => hK _ _ _ ?_ he)
      clear he fr0 hK K
      refine AWc_iff rfl (fun hc => ?_) (fun hc => ?_)
      · skip
        have hij : i < j := by have := of_decide_eq_true hc; omega
        obtain ⟨x, hx⟩ : ∃ x, (A ++ U ++ [v] ++ C)[(i + j) / 2]? = some x := ⟨_, List.getElem?_eq_getElem (by rw [hL]; omega)⟩
        apply AW_skip
        repeat (with_reducible (first | refine q_norm_then ?_ | refine q_norm_block ?_))
        apply AW_block
        refine AWc_reg (fun K hK => ?_)
        first | refine ec_move rfl rfl rfl ?_ | refine ec_moveO rfl rfl rfl ?_
        first | refine ec_move rfl rfl rfl ?_ | refine ec_moveO rfl rfl rfl ?_
        refine ec_add rfl rfl rfl (by omega) (by omega) ?_
        refine ec_convI td3 td261 rfl rfl ?_
        refine ec_bin rfl rfl rfl rfl ?_
        refine ec_convI td261 td3 rfl rfl ?_
        refine ec_eqv (v' := .int .i64 (((i + j) / 2 : Nat) : Int)) (half_av _ _ (by omega) (by omega) (by omega)) ?_
        first | refine ec_asg rfl rfl rfl ?_ | refine ec_asgO rfl rfl rfl ?_
        refine ec_end (fun fr0 he => hK _ _ _ ?_ he)
        clear he fr0 hK K
        refine AWc_reg (fun K hK => ?_)
        refine ec_fieldAddr td313 rfl rfl rfl rfl rfl ?_
        first | refine ec_load rfl ti198 rfl rfl rfl rfl rfl ?_ | refine ec_loadE rfl ti198 rfl rfl rfl ?_ | refine ec_loadO rfl ti198 rfl rfl rfl rfl rfl ?_ | refine ec_loadR rfl ti198 rfl rfl (by decide) (by first | decide | simp [lswC]) rfl ?_ | refine ec_loadER rfl ti198 rfl (by first | decide | simp [lswC]) rfl ?_
        first | refine ec_move rfl rfl rfl ?_ | refine ec_moveO rfl rfl rfl ?_
        first | refine ec_move rfl rfl rfl ?_ | refine ec_moveO rfl rfl rfl ?_
        apply ec_less hL
        case hf => exact rfl
        case ha => exact rfl
        case h0 => omega
        case h1 => omega
        case hx => exact (getm (P := A ++ U) (z := v) (R := C) (by simp) (by rw [Int.toNat_natCast]; simp))
        case hy => exact hx
        case hd => exact rfl
        intro acc'
        refine ec_not rfl rfl rfl ?_
        refine ec_end (fun fr0 he => hK _ _ _ ?_ he)
        clear he fr0 hK K
        refine AWc_iff rfl (fun hc => ?_) (fun hc => ?_)
        · skip
          refine AWc_reg1 (by repeat (with_reducible (first | exact qv_then | exact qv_loop | exact qv_join | exact qv_end | refine qv_block ?_))) (fun K hK => ?_)
          first | refine ec_move rfl rfl rfl ?_ | refine ec_moveO rfl rfl rfl ?_
          refine ec_add rfl rfl rfl (by omega) (by omega) ?_
          first | refine ec_asg rfl rfl rfl ?_ | refine ec_asgO rfl rfl rfl ?_
          refine ec_end (fun fr0 he => hK _ _ _ ?_ he)
          clear he fr0 hK K
          repeat (with_reducible (first | refine q_norm_then ?_ | refine q_norm_block ?_))
          refine loop_onw (t' := ((i + j) / 2 + 1, j)) ⟨by show _ ≤ (i + j) / 2 + 1; omega, by show (i + j) / 2 + 1 ≤ j; omega, hi3, .inr ⟨x, by show (A ++ U ++ [v] ++ C)[(i + j) / 2 + 1 - 1]? = _; rw [Nat.add_sub_cancel]; exact hx, by simpa using hc⟩, P2⟩ (by show j - ((i + j) / 2 + 1) < j - i; omega) (leFr_cons rfl (.refl _) (leFr_cons rfl (.refl _) (leFr_cons rfl (.refl _) (leFr_cons rfl (.refl _) (leFr_cons rfl (wk_int (by first | omega | (simp; omega) | (simp; done))) (leFr_cons rfl (.refl _) trivial)))))) rfl (ptr_own (by simp [frPtrs, AV.ptrs]))
        · skip
          refine AWc_reg1 (by repeat (with_reducible (first | exact qv_then | exact qv_loop | exact qv_join | exact qv_end | refine qv_block ?_))) (fun K hK => ?_)
          first | refine ec_move rfl rfl rfl ?_ | refine ec_moveO rfl rfl rfl ?_
          first | refine ec_asg rfl rfl rfl ?_ | refine ec_asgO rfl rfl rfl ?_
          refine ec_end (fun fr0 he => hK _ _ _ ?_ he)
          clear he fr0 hK K
          repeat (with_reducible (first | refine q_norm_then ?_ | refine q_norm_block ?_))
          refine loop_onw (t' := (i, (i + j) / 2)) ⟨hi1, by show i ≤ (i + j) / 2; omega, by show (i + j) / 2 ≤ _; omega, P1, .inr ⟨x, hx, by simpa using hc⟩⟩ (by show (i + j) / 2 - i < j - i; omega) (leFr_cons rfl (.refl _) (leFr_cons rfl (.refl _) (leFr_cons rfl (.refl _) (leFr_cons rfl (.refl _) (leFr_cons rfl (.refl _) (leFr_cons rfl (.refl _) trivial)))))) rfl (ptr_own (by simp [frPtrs, AV.ptrs]))
      · skip
        have hij : ¬ i < j := by have := of_decide_eq_false hc; omega
        obtain rfl : i = j := by omega
        have hfin := sym_tail (key := Prod.fst) (i := i) rfl hU hi1 hi3 P1 P2
        apply AW_exit
        repeat (with_reducible (first | refine q_exit_then ?_ | refine q_exit_loop ?_ | refine q_exit_block ?_ | refine q_exit_join ?_ | refine q_exit_other (by decide) ?_))
        repeat (with_reducible (first | refine q_norm_then ?_ | refine q_norm_block ?_))
        repeat (with_reducible (first | refine q_norm_then ?_ | refine q_norm_block ?_))
        apply AW_seq
        refine AWc_reg (fun K hK => ?_)
        first | refine ec_move rfl rfl rfl ?_ | refine ec_moveO rfl rfl rfl ?_
        first | refine ec_asg rfl rfl rfl ?_ | refine ec_asgO rfl rfl rfl ?_
        refine ec_end (fun fr0 he => hK _ _ _ ?_ he)
        clear he fr0 hK K
        apply AW_block
        refine AW_loopw (T := Nat) (fun q => i - A.length ≤ q ∧ q ≤ U.length) (fun q => I284d n A U C v i q) (fun q => q) U.length ⟨by omega, Nat.le_refl _⟩ (leFr_cons rfl (.refl _) (leFr_cons rfl (.refl _) (leFr_cons rfl (.refl _) (leFr_cons rfl (.refl _) (leFr_cons rfl (wk_int (by first | omega | (simp; omega) | (simp; done))) trivial))))) (by show _ = smN n (A ++ U.take U.length ++ v :: U.drop U.length ++ C) [lswC n]; simp) (ptr_own (by simp [frPtrs, AV.ptrs])) ?_
        rintro q ⟨hq, hq2⟩
        unfold I284d
        have hL2 : (A ++ U.take q ++ v :: U.drop q ++ C).length = n := by simp; omega
        apply AW_seq
        refine AWc_reg (fun K hK => ?_)
        first | refine ec_move rfl rfl rfl ?_ | refine ec_moveO rfl rfl rfl ?_
        first | refine ec_move rfl rfl rfl ?_ | refine ec_moveO rfl rfl rfl ?_
        refine ec_bin rfl rfl rfl rfl ?_
        refine ec_end (fun fr0 he => hK _ _ _ ?_ he)
        clear he fr0 hK K
        refine AWc_iff rfl (fun hc => ?_) (fun hc => ?_)
        · skip
          have hlt : q - 1 < U.length := by have := of_decide_eq_true hc; omega
          have hq0 : i - A.length < q := by have := of_decide_eq_true hc; omega
          apply AW_skip
          repeat (with_reducible (first | refine q_norm_then ?_ | refine q_norm_block ?_))
          apply AW_seq
          apply AW_block
          refine AWc_reg1 (by repeat (with_reducible (first | exact qv_then | exact qv_loop | exact qv_join | exact qv_end | refine qv_block ?_))) (fun K hK => ?_)
          refine ec_fieldAddr td313 rfl rfl rfl rfl rfl ?_
          first | refine ec_load rfl ti262 rfl rfl rfl rfl rfl ?_ | refine ec_loadE rfl ti262 rfl rfl rfl ?_ | refine ec_loadO rfl ti262 rfl rfl rfl rfl rfl ?_ | refine ec_loadR rfl ti262 rfl rfl (by decide) (by first | decide | simp [lswC]) rfl ?_ | refine ec_loadER rfl ti262 rfl (by first | decide | simp [lswC]) rfl ?_
          first | refine ec_move rfl rfl rfl ?_ | refine ec_moveO rfl rfl rfl ?_
          first | refine ec_move rfl rfl rfl ?_ | refine ec_moveO rfl rfl rfl ?_
          refine ec_sub rfl rfl rfl (by omega) (by omega) ?_
          apply ec_swap hL2
          case hf => exact rfl
          case ha => exact rfl
          case h0 => omega
          case h1 => omega
          case hi => omega
          case hj => omega
          case hd => exact rfl
          intro acc'
          refine ec_end (fun fr0 he => hK _ _ _ ?_ he)
          clear he fr0 hK K
          repeat (with_reducible (first | refine q_norm_then ?_ | refine q_norm_block ?_))
          refine AWc_reg1 (by repeat (with_reducible (first | exact qv_then | exact qv_loop | exact qv_join | exact qv_end | refine qv_block ?_))) (fun K hK => ?_)
          first | refine ec_move rfl rfl rfl ?_ | refine ec_moveO rfl rfl rfl ?_
          refine ec_sub rfl rfl rfl (by omega) (by omega) ?_
          first | refine ec_asg rfl rfl rfl ?_ | refine ec_asgO rfl rfl rfl ?_
          refine ec_end (fun fr0 he => hK _ _ _ ?_ he)
          clear he fr0 hK K
          repeat (with_reducible (first | refine q_norm_then ?_ | refine q_norm_block ?_))
          refine loop_onw (t' := q - 1) ⟨by omega, by omega⟩ (by omega) (leFr_cons rfl (.refl _) (leFr_cons rfl (.refl _) (leFr_cons rfl (.refl _) (leFr_cons rfl (.refl _) (leFr_cons rfl (wk_int (by first | omega | (simp; omega) | (simp; done))) trivial))))) (by show _ = smN n (A ++ U.take (q - 1) ++ v :: U.drop (q - 1) ++ C) [lswC n]; rw [swpm (X := A ++ U.take (q - 1)) (Y := U.drop q ++ C) (u := U[q - 1]) (v := v) (by rw [show U.take q = U.take (q - 1) ++ [U[q - 1]] from by rw [← List.take_succ_eq_append_getElem hlt]; congr 1; omega]; simp only [List.append_assoc, List.cons_append, List.nil_append]) (by simp; omega) (by simp; omega), List.drop_eq_getElem_cons hlt, show q - 1 + 1 = q from by omega]; simp only [List.append_assoc, List.cons_append, List.nil_append]) (ptr_own (by simp [frPtrs, AV.ptrs]))
        · skip
          have hqe : q = i - A.length := by have := of_decide_eq_false hc; omega
          apply AW_exit
          repeat (with_reducible (first | refine q_exit_then ?_ | refine q_exit_loop ?_ | refine q_exit_block ?_ | refine q_exit_join ?_ | refine q_exit_other (by decide) ?_))
          repeat (with_reducible (first | refine q_norm_then ?_ | refine q_norm_block ?_))
          repeat (with_reducible (first | refine q_norm_then ?_ | refine q_norm_block ?_))
          apply AW_ret
          repeat (with_reducible (first | refine q_ret_then ?_ | refine q_ret_loop ?_ | refine q_ret_block ?_ | refine q_ret_join ?_))
          refine end_ret (.inl rfl) rfl (.refl _) ?_ (by simp [smN])
          rw [hqe]; rw [show A ++ srt (U ++ [v]) ++ C = A ++ U.take (i - A.length) ++ v :: U.drop (i - A.length) ++ C from by rw [srt, hfin]; simp]; exact leMem_smN _ _ _
    · skip
      have hV1 : V.length ≠ 1 := by intro e; have : ¬ (((A.length + U.length + V.length : Nat) : Int) - ((A.length + U.length : Nat) : Int)) = 1 := (by simpa using hc); omega
      have hL : (A ++ U ++ V ++ C).length = n := by simp; omega
      apply AW_skip
      repeat (with_reducible (first | refine q_norm_then ?_ | refine q_norm_block ?_))
      refine AWc_reg (fun K hK => ?_)
      first | refine ec_move rfl rfl rfl ?_ | refine ec_moveO rfl rfl rfl ?_
      first | refine ec_move rfl rfl rfl ?_ | refine ec_moveO rfl rfl rfl ?_
      refine ec_add rfl rfl rfl (by omega) (by omega) ?_
      refine ec_convI td3 td261 rfl rfl ?_
      refine ec_bin rfl rfl rfl rfl ?_
      refine ec_convI td261 td3 rfl rfl ?_
      refine ec_eqv (v' := .int .i64 (((A.length + (A.length + U.length + V.length)) / 2 : Nat) : Int)) (half_av _ _ (by omega) (by omega) (by omega)) ?_
      first | refine ec_asg rfl rfl rfl ?_ | refine ec_asgO rfl rfl rfl ?_
      refine ec_end (fun fr0 he => hK _ _ _ ?_ he)
      clear he fr0 hK K
      obtain ⟨mid, hmid⟩ : ∃ mid, mid = (A.length + (A.length + U.length + V.length)) / 2 := ⟨_, rfl⟩
      rw [← hmid]
      refine AWc_reg (fun K hK => ?_)
      first | refine ec_move rfl rfl rfl ?_ | refine ec_moveO rfl rfl rfl ?_
      first | refine ec_move rfl rfl rfl ?_ | refine ec_moveO rfl rfl rfl ?_
      refine ec_add rfl rfl rfl (by omega) (by omega) ?_
      first | refine ec_asg rfl rfl rfl ?_ | refine ec_asgO rfl rfl rfl ?_
      refine ec_end (fun fr0 he => hK _ _ _ ?_ he)
      clear he fr0 hK K
      refine AWc_reg (fun K hK => ?_)
      refine ec_asgC rfl rfl ?_
      refine ec_asgC rfl rfl ?_
      refine ec_end (fun fr0 he => hK _ _ _ ?_ he)
      clear he fr0 hK K
      refine AW_join (T := Nat × Nat) (fun t => (mid < A.length + U.length ∧ t.1 = mid + (A.length + U.length) - (A.length + U.length + V.length) ∧ t.2 = mid) ∨ (A.length + U.length ≤ mid ∧ t.1 = A.length ∧ t.2 = A.length + U.length)) (fun t => I284j n A U V C mid t.1 t.2) ?_ ?_
      · skip
        refine AWc_reg (fun K hK => ?_)
        first | refine ec_move rfl rfl rfl ?_ | refine ec_moveO rfl rfl rfl ?_
        first | refine ec_move rfl rfl rfl ?_ | refine ec_moveO rfl rfl rfl ?_
        refine ec_bin rfl rfl rfl rfl ?_
        refine ec_end (fun fr0 he => hK _ _ _ ?_ he)
        clear he fr0 hK K
        refine AWc_iff rfl (fun hc => ?_) (fun hc => ?_)
        · skip
          have hmm : mid < A.length + U.length := by have := of_decide_eq_true hc; omega
          refine AWc_reg (fun K hK => ?_)
          first | refine ec_move rfl rfl rfl ?_ | refine ec_moveO rfl rfl rfl ?_
          first | refine ec_move rfl rfl rfl ?_ | refine ec_moveO rfl rfl rfl ?_
          refine ec_sub rfl rfl rfl (by omega) (by omega) ?_
          first | refine ec_asg rfl rfl rfl ?_ | refine ec_asgO rfl rfl rfl ?_
          refine ec_end (fun fr0 he => hK _ _ _ ?_ he)
          clear he fr0 hK K
          refine AWc_reg1 (by repeat (with_reducible (first | exact qv_then | exact qv_loop | exact qv_join | exact qv_end | refine qv_block ?_))) (fun K hK => ?_)
          first | refine ec_move rfl rfl rfl ?_ | refine ec_moveO rfl rfl rfl ?_
          first | refine ec_asg rfl rfl rfl ?_ | refine ec_asgO rfl rfl rfl ?_
          refine ec_end (fun fr0 he => hK _ _ _ ?_ he)
          clear he fr0 hK K
          repeat (with_reducible (first | refine q_norm_then ?_ | refine q_norm_block ?_))
          refine join_at (t := (mid + (A.length + U.length) - (A.length + U.length + V.length), mid)) (.inl ⟨hmm, rfl, rfl⟩) (leFr_cons rfl (.refl _) (leFr_cons rfl (.refl _) (leFr_cons rfl (.refl _) (leFr_cons rfl (.refl _) (leFr_cons rfl (.refl _) (leFr_cons rfl (wk_int (by first | omega | (simp; omega) | (simp; done))) (leFr_cons rfl (wk_int (by first | omega | (simp; omega) | (simp; done))) (leFr_cons rfl (.refl _) trivial)))))))) rfl (ptr_own (by simp [frPtrs, AV.ptrs]))
        · skip
          have hmm : A.length + U.length ≤ mid := by have := of_decide_eq_false hc; omega
          refine AWc_reg (fun K hK => ?_)
          first | refine ec_move rfl rfl rfl ?_ | refine ec_moveO rfl rfl rfl ?_
          first | refine ec_asg rfl rfl rfl ?_ | refine ec_asgO rfl rfl rfl ?_
          refine ec_end (fun fr0 he => hK _ _ _ ?_ he)
          clear he fr0 hK K
          refine AWc_reg1 (by repeat (with_reducible (first | exact qv_then | exact qv_loop | exact qv_join | exact qv_end | refine qv_block ?_))) (fun K hK => ?_)
          first | refine ec_move rfl rfl rfl ?_ | refine ec_moveO rfl rfl rfl ?_
          first | refine ec_asg rfl rfl rfl ?_ | refine ec_asgO rfl rfl rfl ?_
          refine ec_end (fun fr0 he => hK _ _ _ ?_ he)
          clear he fr0 hK K
          repeat (with_reducible (first | refine q_norm_then ?_ | refine q_norm_block ?_))
          refine join_at (t := (A.length, A.length + U.length)) (.inr ⟨hmm, rfl, rfl⟩) (leFr_cons rfl (.refl _) (leFr_cons rfl (.refl _) (leFr_cons rfl (.refl _) (leFr_cons rfl (.refl _) (leFr_cons rfl (.refl _) (leFr_cons rfl (wk_int (by first | omega | (simp; omega) | (simp; done))) (leFr_cons rfl (.refl _) (leFr_cons rfl (.refl _) trivial)))))))) rfl (ptr_own (by simp [frPtrs, AV.ptrs]))
      · skip
        rintro ⟨lo, hi⟩ hlh
        show AW _ _ _ _ _ (I284j n A U V C mid lo hi)
        simp only at hlh
        unfold I284j
        refine AWc_reg (fun K hK => ?_)
        first | refine ec_move rfl rfl rfl ?_ | refine ec_moveO rfl rfl rfl ?_
        refine ec_sub rfl rfl rfl (by omega) (by omega) ?_
        first | refine ec_asg rfl rfl rfl ?_ | refine ec_asgO rfl rfl rfl ?_
        refine ec_end (fun fr0 he => hK _ _ _ ?_ he)
        clear he fr0 hK K
        apply AW_seq
        apply AW_block
        refine AW_loopw (T := Nat × Nat) (fun t => Inv284e A U V C mid lo hi t.1 t.2) (fun t => I284e n A U V C mid t.1 t.2) (fun t => t.2 - t.1) (lo, hi) ⟨Nat.le_refl _, by show lo ≤ hi; omega, Nat.le_refl _, .inl rfl, .inl rfl⟩ (leFr_cons rfl (.refl _) (leFr_cons rfl (.refl _) (leFr_cons rfl (.refl _) (leFr_cons rfl (.refl _) (leFr_cons rfl (.refl _) (leFr_cons rfl (.refl _) (leFr_cons rfl (.refl _) (leFr_cons rfl (.refl _) (leFr_cons rfl (wk_int (by first | omega | (simp; omega) | (simp; done))) trivial))))))))) rfl (ptr_own (by simp [frPtrs, AV.ptrs])) ?_
        rintro ⟨s, r⟩ ⟨hi1, hi2, hi3, P1, P2⟩
        show AW _ _ _ _ _ (I284e n A U V C mid s r)
        simp only at hi1 hi2 hi3 P1 P2
        replace P1 := Hid.mk P1
        replace P2 := Hid.mk P2
        unfold I284e
        apply AW_seq
        refine AWc_reg (fun K hK => ?_)
        first | refine ec_move rfl rfl rfl ?_ | refine ec_moveO rfl rfl rfl ?_
        first | refine ec_move rfl rfl rfl ?_ | refine ec_moveO rfl rfl rfl ?_
        refine ec_bin rfl rfl rfl rfl ?_
        refine ec_end (fun fr0 he => hK _ _ _ ?_ he)
        clear he fr0 hK K
        refine AWc_iff rfl (fun hc => ?_) (fun hc => ?_)
        · skip
          have hsr : s < r := by have := of_decide_eq_true hc; omega
          obtain ⟨x, hx⟩ : ∃ x, (A ++ U ++ V ++ C)[mid + (A.length + U.length) - 1 - (s + r) / 2]? = some x := ⟨_, List.getElem?_eq_getElem (by rw [hL]; omega)⟩
          obtain ⟨y, hy⟩ : ∃ y, (A ++ U ++ V ++ C)[(s + r) / 2]? = some y := ⟨_, List.getElem?_eq_getElem (by rw [hL]; omega)⟩
          apply AW_skip
          repeat (with_reducible (first | refine q_norm_then ?_ | refine q_norm_block ?_))
          apply AW_block
          refine AWc_reg (fun K hK => ?_)
          first | refine ec_move rfl rfl rfl ?_ | refine ec_moveO rfl rfl rfl ?_
          first | refine ec_move rfl rfl rfl ?_ | refine ec_moveO rfl rfl rfl ?_
          refine ec_add rfl rfl rfl (by omega) (by omega) ?_
          refine ec_convI td3 td261 rfl rfl ?_
          refine ec_bin rfl rfl rfl rfl ?_
          refine ec_convI td261 td3 rfl rfl ?_
          refine ec_eqv (v' := .int .i64 (((s + r) / 2 : Nat) : Int)) (half_av _ _ (by omega) (by omega) (by omega)) ?_
          first | refine ec_asg rfl rfl rfl ?_ | refine ec_asgO rfl rfl rfl ?_
          refine ec_end (fun fr0 he => hK _ _ _ ?_ he)
          clear he fr0 hK K
          refine AWc_reg (fun K hK => ?_)
          refine ec_fieldAddr td313 rfl rfl rfl rfl rfl ?_
          first | refine ec_load rfl ti198 rfl rfl rfl rfl rfl ?_ | refine ec_loadE rfl ti198 rfl rfl rfl ?_ | refine ec_loadO rfl ti198 rfl rfl rfl rfl rfl ?_ | refine ec_loadR rfl ti198 rfl rfl (by decide) (by first | decide | simp [lswC]) rfl ?_ | refine ec_loadER rfl ti198 rfl (by first | decide | simp [lswC]) rfl ?_
          first | refine ec_move rfl rfl rfl ?_ | refine ec_moveO rfl rfl rfl ?_
          first | refine ec_move rfl rfl rfl ?_ | refine ec_moveO rfl rfl rfl ?_
          refine ec_sub rfl rfl rfl (by omega) (by omega) ?_
          first | refine ec_move rfl rfl rfl ?_ | refine ec_moveO rfl rfl rfl ?_
          apply ec_less hL
          case hf => exact rfl
          case ha => exact rfl
          case h0 => omega
          case h1 => omega
          case hx => exact (by rw [show ((mid + (A.length + U.length) - 1 : Nat) : Int) - (((s + r) / 2 : Nat) : Int) = ((mid + (A.length + U.length) - 1 - (s + r) / 2 : Nat) : Int) from by omega, Int.toNat_natCast]; exact hx)
          case hy => exact hy
          case hd => exact rfl
          intro acc'
          refine ec_not rfl rfl rfl ?_
          refine ec_end (fun fr0 he => hK _ _ _ ?_ he)
          clear he fr0 hK K
          refine AWc_iff rfl (fun hc => ?_) (fun hc => ?_)
          · skip
            refine AWc_reg1 (by repeat (with_reducible (first | exact qv_then | exact qv_loop | exact qv_join | exact qv_end | refine qv_block ?_))) (fun K hK => ?_)
            first | refine ec_move rfl rfl rfl ?_ | refine ec_moveO rfl rfl rfl ?_
            refine ec_add rfl rfl rfl (by omega) (by omega) ?_
            first | refine ec_asg rfl rfl rfl ?_ | refine ec_asgO rfl rfl rfl ?_
            refine ec_end (fun fr0 he => hK _ _ _ ?_ he)
            clear he fr0 hK K
            repeat (with_reducible (first | refine q_norm_then ?_ | refine q_norm_block ?_))
            refine loop_onw (t' := ((s + r) / 2 + 1, r)) ⟨by show _ ≤ (s + r) / 2 + 1; omega, by show (s + r) / 2 + 1 ≤ r; omega, hi3, .inr ⟨x, y, by show (A ++ U ++ V ++ C)[mid + (A.length + U.length) - 1 - ((s + r) / 2 + 1 - 1)]? = _; rw [Nat.add_sub_cancel]; exact hx, by show (A ++ U ++ V ++ C)[(s + r) / 2 + 1 - 1]? = _; rw [Nat.add_sub_cancel]; exact hy, by simpa using hc⟩, P2.out⟩ (by show r - ((s + r) / 2 + 1) < r - s; omega) (leFr_cons rfl (.refl _) (leFr_cons rfl (.refl _) (leFr_cons rfl (.refl _) (leFr_cons rfl (.refl _) (leFr_cons rfl (.refl _) (leFr_cons rfl (.refl _) (leFr_cons rfl (wk_int (by first | omega | (simp; omega) | (simp; done))) (leFr_cons rfl (.refl _) (leFr_cons rfl (.refl _) trivial))))))))) rfl (ptr_own (by simp [frPtrs, AV.ptrs]))
          · skip
            refine AWc_reg1 (by repeat (with_reducible (first | exact qv_then | exact qv_loop | exact qv_join | exact qv_end | refine qv_block ?_))) (fun K hK => ?_)
            first | refine ec_move rfl rfl rfl ?_ | refine ec_moveO rfl rfl rfl ?_
            first | refine ec_asg rfl rfl rfl ?_ | refine ec_asgO rfl rfl rfl ?_
            refine ec_end (fun fr0 he => hK _ _ _ ?_ he)
            clear he fr0 hK K
            repeat (with_reducible (first | refine q_norm_then ?_ | refine q_norm_block ?_))
            refine loop_onw (t' := (s, (s + r) / 2)) ⟨hi1, by show s ≤ (s + r) / 2; omega, by show (s + r) / 2 ≤ _; omega, P1.out, .inr ⟨x, y, hx, hy, by simpa using hc⟩⟩ (by show (s + r) / 2 - s < r - s; omega) (leFr_cons rfl (.refl _) (leFr_cons rfl (.refl _) (leFr_cons rfl (.refl _) (leFr_cons rfl (.refl _) (leFr_cons rfl (.refl _) (leFr_cons rfl (.refl _) (leFr_cons rfl (.refl _) (leFr_cons rfl (.refl _) (leFr_cons rfl (.refl _) trivial))))))))) rfl (ptr_own (by simp [frPtrs, AV.ptrs]))
        · skip
          have hsr : ¬ s < r := by have := of_decide_eq_false hc; omega
          obtain rfl : s = r := by omega
          have hcut := sym_cut (key := Prod.fst) rfl hU hV rfl rfl hmid hlh hi1 hi3 P1.out P2.out
          obtain ⟨U1, U2, hUe, hU1l, hU1e, hU2e⟩ : ∃ U1 U2, U = U1 ++ U2 ∧ U1.length = s - A.length ∧ U1 = U.take (s - A.length) ∧ U2 = U.drop (s - A.length) := ⟨_, _, (List.take_append_drop _ _).symm, by simp; omega, rfl, rfl⟩
          obtain ⟨V1, V2, hVe, hV1l, hV1e, hV2e⟩ : ∃ V1 V2, V = V1 ++ V2 ∧ V1.length = mid - s ∧ V1 = V.take (mid - s) ∧ V2 = V.drop (mid - s) := ⟨_, _, (List.take_append_drop _ _).symm, by simp; omega, rfl, rfl⟩
          rw [← hU1e, ← hU2e, ← hV1e, ← hV2e] at hcut
          have hUl : U.length = U1.length + U2.length := by rw [hUe]; simp
          have hVl : V.length = V1.length + V2.length := by rw [hVe]; simp
          have hsU1 : Srt Prod.fst U1 := by rw [hUe] at hU; exact hU.left
          have hsU2 : Srt Prod.fst U2 := by rw [hUe] at hU; exact hU.right
          have hsV1 : Srt Prod.fst V1 := by rw [hVe] at hV; exact hV.left
          have hsV2 : Srt Prod.fst V2 := by rw [hVe] at hV; exact hV.right
          clear P1 P2 hU1e hU2e hV1e hV2e
          apply AW_exit
          repeat (with_reducible (first | refine q_exit_then ?_ | refine q_exit_loop ?_ | refine q_exit_block ?_ | refine q_exit_join ?_ | refine q_exit_other (by decide) ?_))
          repeat (with_reducible (first | refine q_norm_then ?_ | refine q_norm_block ?_))
          repeat (with_reducible (first | refine q_norm_then ?_ | refine q_norm_block ?_))
          refine AWc_reg (fun K hK => ?_)
          first | refine ec_move rfl rfl rfl ?_ | refine ec_moveO rfl rfl rfl ?_
          first | refine ec_move rfl rfl rfl ?_ | refine ec_moveO rfl rfl rfl ?_
          refine ec_sub rfl rfl rfl (by omega) (by omega) ?_
          first | refine ec_asg rfl rfl rfl ?_ | refine ec_asgO rfl rfl rfl ?_
          refine ec_end (fun fr0 he => hK _ _ _ ?_ he)
          clear he fr0 hK K
          refine AW_join (T := Unit) (fun _ => True) (fun _ => I284l n A U V C mid s (A ++ U1 ++ V1 ++ U2 ++ V2 ++ C)) ?_ ?_
          · skip
            refine AW_join (T := Bool) (fun t => t = true ↔ (s < A.length + U.length ∧ A.length + U.length < mid + (A.length + U.length) - s)) (fun t => I284k n A U V C mid s t) ?_ ?_
            · skip
              refine AWc_reg1 (by repeat (with_reducible (first | exact qv_then | exact qv_loop | exact qv_join | exact qv_end | refine qv_block ?_))) (fun K hK => ?_)
              first | refine ec_move rfl rfl rfl ?_ | refine ec_moveO rfl rfl rfl ?_
              first | refine ec_move rfl rfl rfl ?_ | refine ec_moveO rfl rfl rfl ?_
              refine ec_bin rfl rfl rfl rfl ?_
              first | refine ec_move rfl rfl rfl ?_ | refine ec_moveO rfl rfl rfl ?_
              refine ec_grd rfl rfl (by simp [dstLt]) (fun hg => ?_) (fun hg => ?_)
              · skip
                have hga : s < A.length + U.length := by have := of_decide_eq_true hg; omega
                first | refine ec_move rfl rfl rfl ?_ | refine ec_moveO rfl rfl rfl ?_
                refine ec_grdT rfl rfl ?_
                first | refine ec_move rfl rfl rfl ?_ | refine ec_moveO rfl rfl rfl ?_
                refine ec_grdT rfl rfl ?_
                refine ec_bin rfl rfl rfl rfl ?_
                first | refine ec_pickT rfl rfl rfl ?_ | refine ec_pickF rfl rfl rfl ?_
                refine ec_end (fun fr0 he => hK _ _ _ ?_ he)
                clear he fr0 hK K
                repeat (with_reducible (first | refine q_norm_then ?_ | refine q_norm_block ?_))
                refine join_at (t := decide (A.length + U.length < mid + (A.length + U.length) - s)) ⟨(fun h => ⟨hga, of_decide_eq_true h⟩), (fun h => decide_eq_true h.2)⟩ (leFr_cons rfl (.refl _) (leFr_cons rfl (.refl _) (leFr_cons rfl (.refl _) (leFr_cons rfl (.refl _) (leFr_cons rfl (.refl _) (leFr_cons rfl (.refl _) (leFr_cons rfl (wk_int (by first | omega | (simp; omega) | (simp; done))) (leFr_cons rfl (wk_bool (by rw [Bool.eq_iff_iff]; simp only [decide_eq_true_eq]; omega)) trivial)))))))) rfl (ptr_own (by simp [frPtrs, AV.ptrs]))
              · skip
                have hga : ¬ s < A.length + U.length := by have := of_decide_eq_false hg; omega
                refine ec_grdF rfl rfl rfl (by simp [dstLt]) ?_
                refine ec_grdF rfl rfl rfl (by simp [dstLt]) ?_
                first | refine ec_pickT rfl rfl rfl ?_ | refine ec_pickF rfl rfl rfl ?_
                refine ec_end (fun fr0 he => hK _ _ _ ?_ he)
                clear he fr0 hK K
                repeat (with_reducible (first | refine q_norm_then ?_ | refine q_norm_block ?_))
                refine join_at (t := false) ⟨(fun h => by cases h), (fun h => absurd h.1 hga)⟩ (leFr_cons rfl (.refl _) (leFr_cons rfl (.refl _) (leFr_cons rfl (.refl _) (leFr_cons rfl (.refl _) (leFr_cons rfl (.refl _) (leFr_cons rfl (.refl _) (leFr_cons rfl (wk_int (by first | omega | (simp; omega) | (simp; done))) (leFr_cons rfl (.refl _) trivial)))))))) rfl (ptr_own (by simp [frPtrs, AV.ptrs]))
            · skip
              intro t ht
              unfold I284k
              refine AWc_iff rfl (fun hc => ?_) (fun hc => ?_)
              · skip
                have hyes := ht.1 hc
                refine AWc_reg1 (by repeat (with_reducible (first | exact qv_then | exact qv_loop | exact qv_join | exact qv_end | refine qv_block ?_))) (fun K hK => ?_)
                first | refine ec_load rfl ti313 rfl rfl rfl rfl rfl ?_ | refine ec_loadE rfl ti313 rfl rfl rfl ?_ | refine ec_loadO rfl ti313 rfl rfl rfl rfl rfl ?_ | refine ec_loadR rfl ti313 rfl rfl (by decide) (by first | decide | simp [lswC]) rfl ?_ | refine ec_loadER rfl ti313 rfl (by first | decide | simp [lswC]) rfl ?_
                first | refine ec_move rfl rfl rfl ?_ | refine ec_moveO rfl rfl rfl ?_
                first | refine ec_move rfl rfl rfl ?_ | refine ec_moveO rfl rfl rfl ?_
                first | refine ec_move rfl rfl rfl ?_ | refine ec_moveO rfl rfl rfl ?_
                apply ec_scall (k := 332) (l' := A ++ U1 ++ V1 ++ U2 ++ V2 ++ C)
                case ha => exact rfl
                case hi => trivial
                case hc => exact ctr_i3 (ctr_rotate (n := n) (A ++ U1) U2 V1 (V2 ++ C) (by omega) (by omega) (by simp; omega) h6) (by simp; omega) (by simp; omega) (by simp; omega) (by rw [hUe, hVe]; simp) (by simp)
                case hd => exact rfl
                intro acc'
                refine ec_end (fun fr0 he => hK _ _ _ ?_ he)
                clear he fr0 hK K
                repeat (with_reducible (first | refine q_norm_then ?_ | refine q_norm_block ?_))
                refine join_at (t := ()) trivial (leFr_cons rfl (.refl _) (leFr_cons rfl (.refl _) (leFr_cons rfl (.refl _) (leFr_cons rfl (.refl _) (leFr_cons rfl (.refl _) (leFr_cons rfl (.refl _) trivial)))))) (rfl) (ptr_own (by simp [frPtrs, AV.ptrs]))
              · skip
                have hno : U2 = [] ∨ V1 = [] := by
                  have hnt : ¬ (s < A.length + U.length ∧ A.length + U.length < mid + (A.length + U.length) - s) := fun h => by rw [ht.2 h] at hc; cases hc
                  by_cases h0 : U2.length = 0
                  · exact .inl (List.length_eq_zero_iff.1 h0)
                  · exact .inr (List.length_eq_zero_iff.1 (by omega))
                apply AW_skip
                repeat (with_reducible (first | refine q_norm_then ?_ | refine q_norm_block ?_))
                refine join_at (t := ()) trivial (leFr_cons rfl (.refl _) (leFr_cons rfl (.refl _) (leFr_cons rfl (.refl _) (leFr_cons rfl (.refl _) (leFr_cons rfl (.refl _) (leFr_cons rfl (.refl _) trivial)))))) (by show smN n (A ++ U ++ V ++ C) [lswC n] = smN n (A ++ U1 ++ V1 ++ U2 ++ V2 ++ C) [lswC n]; rw [hUe, hVe]; rcases hno with h | h <;> simp [h]) (ptr_own (by simp [frPtrs, AV.ptrs]))
          · skip
            rintro ⟨⟩ _
            unfold I284l
            refine AW_join (T := Unit) (fun _ => True) (fun _ => I284o n A U V C mid s (A ++ srt (U1 ++ V1) ++ U2 ++ V2 ++ C)) ?_ ?_
            · skip
              refine AW_join (T := Bool) (fun t => t = true ↔ (A.length < s ∧ s < mid)) (fun t => I284m n A U V C mid s (A ++ U1 ++ V1 ++ U2 ++ V2 ++ C) t) ?_ ?_
              · skip
                refine AWc_reg1 (by repeat (with_reducible (first | exact qv_then | exact qv_loop | exact qv_join | exact qv_end | refine qv_block ?_))) (fun K hK => ?_)
                first | refine ec_move rfl rfl rfl ?_ | refine ec_moveO rfl rfl rfl ?_
                first | refine ec_move rfl rfl rfl ?_ | refine ec_moveO rfl rfl rfl ?_
                refine ec_bin rfl rfl rfl rfl ?_
                first | refine ec_move rfl rfl rfl ?_ | refine ec_moveO rfl rfl rfl ?_
                refine ec_grd rfl rfl (by simp [dstLt]) (fun hg => ?_) (fun hg => ?_)
                · skip
                  have hga : A.length < s := by have := of_decide_eq_true hg; omega
                  first | refine ec_move rfl rfl rfl ?_ | refine ec_moveO rfl rfl rfl ?_
                  refine ec_grdT rfl rfl ?_
                  first | refine ec_move rfl rfl rfl ?_ | refine ec_moveO rfl rfl rfl ?_
                  refine ec_grdT rfl rfl ?_
                  refine ec_bin rfl rfl rfl rfl ?_
                  first | refine ec_pickT rfl rfl rfl ?_ | refine ec_pickF rfl rfl rfl ?_
                  refine ec_end (fun fr0 he => hK _ _ _ ?_ he)
                  clear he fr0 hK K
                  repeat (with_reducible (first | refine q_norm_then ?_ | refine q_norm_block ?_))
                  refine join_at (t := decide (s < mid)) ⟨(fun h => ⟨hga, of_decide_eq_true h⟩), (fun h => decide_eq_true h.2)⟩ (leFr_cons rfl (.refl _) (leFr_cons rfl (.refl _) (leFr_cons rfl (.refl _) (leFr_cons rfl (.refl _) (leFr_cons rfl (.refl _) (leFr_cons rfl (.refl _) (leFr_cons rfl (wk_bool (by rw [Bool.eq_iff_iff]; simp only [decide_eq_true_eq]; omega)) trivial))))))) rfl (ptr_own (by simp [frPtrs, AV.ptrs]))
                · skip
                  have hga : ¬ A.length < s := by have := of_decide_eq_false hg; omega
                  refine ec_grdF rfl rfl rfl (by simp [dstLt]) ?_
                  refine ec_grdF rfl rfl rfl (by simp [dstLt]) ?_
                  first | refine ec_pickT rfl rfl rfl ?_ | refine ec_pickF rfl rfl rfl ?_
                  refine ec_end (fun fr0 he => hK _ _ _ ?_ he)
                  clear he fr0 hK K
                  repeat (with_reducible (first | refine q_norm_then ?_ | refine q_norm_block ?_))
                  refine join_at (t := false) ⟨(fun h => by cases h), (fun h => absurd h.1 hga)⟩ (leFr_cons rfl (.refl _) (leFr_cons rfl (.refl _) (leFr_cons rfl (.refl _) (leFr_cons rfl (.refl _) (leFr_cons rfl (.refl _) (leFr_cons rfl (.refl _) (leFr_cons rfl (.refl _) trivial))))))) rfl (ptr_own (by simp [frPtrs, AV.ptrs]))
              · skip
                intro t ht
                unfold I284m
                refine AWc_iff rfl (fun hc => ?_) (fun hc => ?_)
                · skip
                  have hyes := ht.1 hc
                  refine AWc_reg1 (by repeat (with_reducible (first | exact qv_then | exact qv_loop | exact qv_join | exact qv_end | refine qv_block ?_))) (fun K hK => ?_)
                  first | refine ec_load rfl ti313 rfl rfl rfl rfl rfl ?_ | refine ec_loadE rfl ti313 rfl rfl rfl ?_ | refine ec_loadO rfl ti313 rfl rfl rfl rfl rfl ?_ | refine ec_loadR rfl ti313 rfl rfl (by decide) (by first | decide | simp [lswC]) rfl ?_ | refine ec_loadER rfl ti313 rfl (by first | decide | simp [lswC]) rfl ?_
                  first | refine ec_move rfl rfl rfl ?_ | refine ec_moveO rfl rfl rfl ?_
                  first | refine ec_move rfl rfl rfl ?_ | refine ec_moveO rfl rfl rfl ?_
                  first | refine ec_move rfl rfl rfl ?_ | refine ec_moveO rfl rfl rfl ?_
                  apply ec_scall (k := 284) (l' := A ++ srt (U1 ++ V1) ++ U2 ++ V2 ++ C)
                  case ha => exact rfl
                  case hi => trivial
                  case hc => exact ctr_i3 (ih A U1 V1 (U2 ++ V2 ++ C) (by omega) (by omega) (by omega) hsU1 hsV1 (by simp; omega)) (by omega) (by omega) (by omega) (by simp) (by simp)
                  case hd => exact rfl
                  intro acc'
                  refine ec_end (fun fr0 he => hK _ _ _ ?_ he)
                  clear he fr0 hK K
                  repeat (with_reducible (first | refine q_norm_then ?_ | refine q_norm_block ?_))
                  refine join_at (t := ()) trivial (leFr_cons rfl (.refl _) (leFr_cons rfl (.refl _) (leFr_cons rfl (.refl _) (leFr_cons rfl (.refl _) trivial)))) (rfl) (ptr_own (by simp [frPtrs, AV.ptrs]))
                · skip
                  have hno2 : srt (U1 ++ V1) = U1 ++ V1 := by
                    have hnt : ¬ (A.length < s ∧ s < mid) := fun h => by rw [ht.2 h] at hc; cases hc
                    by_cases h0 : U1.length = 0
                    · rw [List.length_eq_zero_iff.1 h0]; exact srtK_sorted hsV1
                    · rw [List.length_eq_zero_iff.1 (show V1.length = 0 by omega), List.append_nil]; exact srtK_sorted hsU1
                  apply AW_skip
                  repeat (with_reducible (first | refine q_norm_then ?_ | refine q_norm_block ?_))
                  refine join_at (t := ()) trivial (leFr_cons rfl (.refl _) (leFr_cons rfl (.refl _) (leFr_cons rfl (.refl _) (leFr_cons rfl (.refl _) trivial)))) (by show smN n (A ++ U1 ++ V1 ++ U2 ++ V2 ++ C) [lswC n] = smN n (A ++ srt (U1 ++ V1) ++ U2 ++ V2 ++ C) [lswC n]; rw [hno2]; simp) (ptr_own (by simp [frPtrs, AV.ptrs]))
            · skip
              rintro ⟨⟩ _
              unfold I284o
              refine AW_join (T := Bool) (fun t => t = true ↔ (mid < mid + (A.length + U.length) - s ∧ mid + (A.length + U.length) - s < A.length + U.length + V.length)) (fun t => I284p n A U V C mid s (A ++ srt (U1 ++ V1) ++ U2 ++ V2 ++ C) t) ?_ ?_
              · skip
                refine AWc_reg1 (by repeat (with_reducible (first | exact qv_then | exact qv_loop | exact qv_join | exact qv_end | refine qv_block ?_))) (fun K hK => ?_)
                first | refine ec_move rfl rfl rfl ?_ | refine ec_moveO rfl rfl rfl ?_
                first | refine ec_move rfl rfl rfl ?_ | refine ec_moveO rfl rfl rfl ?_
                refine ec_bin rfl rfl rfl rfl ?_
                first | refine ec_move rfl rfl rfl ?_ | refine ec_moveO rfl rfl rfl ?_
                refine ec_grd rfl rfl (by simp [dstLt]) (fun hg => ?_) (fun hg => ?_)
                · skip
                  have hga : mid < mid + (A.length + U.length) - s := by have := of_decide_eq_true hg; omega
                  first | refine ec_move rfl rfl rfl ?_ | refine ec_moveO rfl rfl rfl ?_
                  refine ec_grdT rfl rfl ?_
                  first | refine ec_move rfl rfl rfl ?_ | refine ec_moveO rfl rfl rfl ?_
                  refine ec_grdT rfl rfl ?_
                  refine ec_bin rfl rfl rfl rfl ?_
                  first | refine ec_pickT rfl rfl rfl ?_ | refine ec_pickF rfl rfl rfl ?_
                  refine ec_end (fun fr0 he => hK _ _ _ ?_ he)
                  clear he fr0 hK K
                  repeat (with_reducible (first | refine q_norm_then ?_ | refine q_norm_block ?_))
                  refine join_at (t := decide (mid + (A.length + U.length) - s < A.length + U.length + V.length)) ⟨(fun h => ⟨hga, of_decide_eq_true h⟩), (fun h => decide_eq_true h.2)⟩ (leFr_cons rfl (.refl _) (leFr_cons rfl (.refl _) (leFr_cons rfl (.refl _) (leFr_cons rfl (.refl _) (leFr_cons rfl (wk_bool (by rw [Bool.eq_iff_iff]; simp only [decide_eq_true_eq]; omega)) trivial))))) rfl (ptr_own (by simp [frPtrs, AV.ptrs]))
                · skip
                  have hga : ¬ mid < mid + (A.length + U.length) - s := by have := of_decide_eq_false hg; omega
                  refine ec_grdF rfl rfl rfl (by simp [dstLt]) ?_
                  refine ec_grdF rfl rfl rfl (by simp [dstLt]) ?_
                  first | refine ec_pickT rfl rfl rfl ?_ | refine ec_pickF rfl rfl rfl ?_
                  refine ec_end (fun fr0 he => hK _ _ _ ?_ he)
                  clear he fr0 hK K
                  repeat (with_reducible (first | refine q_norm_then ?_ | refine q_norm_block ?_))
                  refine join_at (t := false) ⟨(fun h => by cases h), (fun h => absurd h.1 hga)⟩ (leFr_cons rfl (.refl _) (leFr_cons rfl (.refl _) (leFr_cons rfl (.refl _) (leFr_cons rfl (.refl _) (leFr_cons rfl (.refl _) trivial))))) rfl (ptr_own (by simp [frPtrs, AV.ptrs]))
              · skip
                intro t ht
                unfold I284p
                refine AWc_iff rfl (fun hc => ?_) (fun hc => ?_)
                · skip
                  have hyes := ht.1 hc
                  refine AWc_reg1 (by repeat (with_reducible (first | exact qv_then | exact qv_loop | exact qv_join | exact qv_end | refine qv_block ?_))) (fun K hK => ?_)
                  first | refine ec_load rfl ti313 rfl rfl rfl rfl rfl ?_ | refine ec_loadE rfl ti313 rfl rfl rfl ?_ | refine ec_loadO rfl ti313 rfl rfl rfl rfl rfl ?_ | refine ec_loadR rfl ti313 rfl rfl (by decide) (by first | decide | simp [lswC]) rfl ?_ | refine ec_loadER rfl ti313 rfl (by first | decide | simp [lswC]) rfl ?_
                  first | refine ec_move rfl rfl rfl ?_ | refine ec_moveO rfl rfl rfl ?_
                  first | refine ec_move rfl rfl rfl ?_ | refine ec_moveO rfl rfl rfl ?_
                  first | refine ec_move rfl rfl rfl ?_ | refine ec_moveO rfl rfl rfl ?_
                  apply ec_scall (k := 284) (l' := A ++ srt (U1 ++ V1) ++ srt (U2 ++ V2) ++ C)
                  case ha => exact rfl
                  case hi => trivial
                  case hc => exact ctr_i3 (ih (A ++ srt (U1 ++ V1)) U2 V2 C (by omega) (by omega) (by omega) hsU2 hsV2 (by simp only [List.length_append, srt, srtK_length]; omega)) (by simp only [List.length_append, srt, srtK_length]; omega) (by simp only [List.length_append, srt, srtK_length]; omega) (by simp only [List.length_append, srt, srtK_length]; omega) (by simp) (by simp)
                  case hd => exact rfl
                  intro acc'
                  refine ec_end (fun fr0 he => hK _ _ _ ?_ he)
                  clear he fr0 hK K
                  repeat (with_reducible (first | refine q_norm_then ?_ | refine q_norm_block ?_))
                  refine end_ret (.inr rfl) rfl (.refl _) ?_ (by simp [smN])
                  rw [show A ++ srt (U ++ V) ++ C = A ++ srt (U1 ++ V1) ++ srt (U2 ++ V2) ++ C from by rw [srt, ← hcut]; simp]
                  exact leMem_smN _ _ _
                · skip
                  have hno3 : srt (U2 ++ V2) = U2 ++ V2 := by
                    have hnt : ¬ (mid < mid + (A.length + U.length) - s ∧ mid + (A.length + U.length) - s < A.length + U.length + V.length) := fun h => by rw [ht.2 h] at hc; cases hc
                    by_cases h0 : U2.length = 0
                    · rw [List.length_eq_zero_iff.1 h0]; exact srtK_sorted hsV2
                    · rw [List.length_eq_zero_iff.1 (show V2.length = 0 by omega), List.append_nil]; exact srtK_sorted hsU2
                  apply AW_skip
                  repeat (with_reducible (first | refine q_norm_then ?_ | refine q_norm_block ?_))
                  refine end_ret (.inr rfl) rfl (.refl _) ?_ (by simp [smN])
                  rw [show A ++ srt (U ++ V) ++ C = A ++ srt (U1 ++ V1) ++ srt (U2 ++ V2) ++ C from by rw [srt, ← hcut]; simp]
                  rw [hno3]; simp only [← List.append_assoc]
                  exact leMem_smN _ _ _
end Go.Aw
end
