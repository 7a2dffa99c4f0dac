/-
  A part of the proof of SideOrderCardSaid (see the last text, Om): no statement of its own, no condition.
-/
import Derived.Test.YtchgjamonjfjhaaGreatDoorOb
import Derived.Test.YtchgjamonjfjhaaGreatDoorLa
set_option linter.unusedSimpArgs false
set_option linter.unusedVariables false
section
set_option linter.unusedSimpArgs false
set_option linter.unusedVariables false
set_option maxRecDepth 100000
set_option maxHeartbeats 1000000
namespace Go.Aw
open Go.Proofs Go.So
theorem ctr_i2 {k n : Nat} {a b a' b' : Int} {l l2 l' l2' : List J4} (h : Ctr Tryz.prog k [lswA n, .int .i64 a, .int .i64 b] (smN n l []) (.ret (.tup [])) (smN n l2 [])) (ha : a = a') (hb : b = b') (hl : l = l') (hl2 : l2 = l2') :
    Ctr Tryz.prog k [lswA n, .int .i64 a', .int .i64 b'] (smN n l' []) (.ret (.tup [])) (smN n l2' []) := by subst ha; subst hb; subst hl; subst hl2; exact h
theorem mul_av {x : Int} {m : Nat} (h0 : 0 ≤ x) (h1 : x ≤ 100000000) (hm : x = m) : (.int .i64 (IntKind.i64.wrap x) : AV) = .int .i64 (m : Int) := by
  have e3 : IntKind.i64.wrap x = x := by rw [IntKind.wrap_i64]; omega
  rw [e3, hm]
def Inv197a (L X P Y : List J4) : Prop := L = X ++ Y ∧ DL Prod.fst 20 X P ∧ P.length = X.length
noncomputable def I197a (n : Nat) (P Y : List J4) : St :=
  ⟨[(1, .int .i64 n), (2, .ptr 2 0), (4, .int .i64 20), (5, .int .i64 P.length), (6, .int .i64 (P.length + 20 : Nat))], smN n (P ++ Y) [lswC n]⟩
def Inv197b (L : List J4) (s : Nat) (R : List J4) : Prop := 20 ≤ s ∧ s ≤ 2000000 ∧ Blk Prod.fst s L R
noncomputable def I197b (n s : Nat) (R : List J4) : St :=
  ⟨[(1, .int .i64 n), (2, .ptr 2 0), (4, .int .i64 s)], smN n R [lswC n]⟩
def Inv197c (L : List J4) (s : Nat) (X P Y r : List J4) : Prop := L = X ++ Y ∧ DL Prod.fst (2 * s) X P ∧ Blk Prod.fst s Y r ∧ P.length = X.length
noncomputable def I197c (n s : Nat) (P r : List J4) : St :=
  ⟨[(1, .int .i64 n), (2, .ptr 2 0), (4, .int .i64 s), (5, .int .i64 P.length), (6, .int .i64 (P.length + 2 * s : Nat))], smN n (P ++ r) [lswC n]⟩
/-- stable -/
theorem ctr_stable {n : Nat} (L : List J4) (hL : L.length = n) (h6 : n ≤ 1000000) :
    Ctr Tryz.prog 197 [lswA n, .int .i64 n] (smN n L []) (.ret (.tup [])) (smN n (srt L) []) := by
  refine ctr_of (rs := []) (nt := 57) Tryz.func197 rfl rfl (enters_of Tryz.func197 rfl (by decide)) rfl (by decide) (by simp) (by simp [smN]) ?_
  refine AWc_reg (fun K hK => ?_)
  first | refine ec_boxR rfl rfl ?_ | refine ec_box rfl rfl rfl ?_
  refine ec_end (fun fr0 he => hK _ _ _ ?_ he)
  clear he fr0 hK K
  refine AWc_reg (fun K hK => ?_)
  refine ec_asgC rfl rfl ?_
  refine ec_end (fun fr0 he => hK _ _ _ ?_ he)
  clear he fr0 hK K
  refine AWc_reg (fun K hK => ?_)
  first | refine ec_move rfl rfl rfl ?_ | refine ec_moveO rfl rfl rfl ?_
  refine ec_asgC rfl rfl ?_
  first | refine ec_asg rfl rfl rfl ?_ | refine ec_asgO rfl rfl rfl ?_
  refine ec_end (fun fr0 he => hK _ _ _ ?_ he)
  clear he fr0 hK K
  apply AW_seq
  apply AW_block
  refine AW_loopw (T := List J4 × List J4 × List J4) (fun t => Inv197a L t.1 t.2.1 t.2.2) (fun t => I197a n t.2.1 t.2.2) (fun t => t.2.2.length) ([], [], L) ⟨rfl, DL_nil, rfl⟩ (leFr_cons rfl (.refl _) (leFr_cons rfl (.refl _) (leFr_cons rfl (.refl _) (leFr_cons rfl (.refl _) (leFr_cons rfl (.refl _) trivial))))) rfl (ptr_own (by simp [frPtrs, AV.ptrs])) ?_
  rintro ⟨X, P, Y⟩ ⟨hi1, hi2, hi3⟩
  show AW _ _ _ _ _ (I197a n P Y)
  simp only at hi1 hi2 hi3
  have hXY : L.length = X.length + Y.length := by rw [hi1]; simp
  unfold I197a
  apply AW_seq
  refine AWc_reg (fun K hK => ?_)
  first | refine ec_move rfl rfl rfl ?_ | refine ec_moveO rfl rfl rfl ?_
  first | refine ec_move rfl rfl rfl ?_ | refine ec_moveO rfl rfl rfl ?_
  refine ec_bin rfl rfl rfl rfl ?_
  refine ec_end (fun fr0 he => hK _ _ _ ?_ he)
  clear he fr0 hK K
  refine AWc_iff rfl (fun hc => ?_) (fun hc => ?_)
  · skip
    have hY : 20 ≤ Y.length := by have := of_decide_eq_true hc; omega
    obtain ⟨x, Y', rfl, hx⟩ : ∃ x Y', Y = x ++ Y' ∧ x.length = 20 := ⟨Y.take 20, Y.drop 20, (List.take_append_drop _ _).symm, by simp; omega⟩
    subst hi1
    simp only [List.length_append] at hXY hL
    apply AW_skip
    repeat (with_reducible (first | refine q_norm_then ?_ | refine q_norm_block ?_))
    apply AW_block
    refine AWc_reg (fun K hK => ?_)
    first | refine ec_load rfl ti313 rfl rfl rfl rfl rfl ?_ | refine ec_loadE rfl ti313 rfl rfl rfl ?_ | refine ec_loadO rfl ti313 rfl rfl rfl rfl rfl ?_ | refine ec_loadR rfl ti313 rfl rfl (by decide) (by first | decide | simp [lswC]) rfl ?_ | refine ec_loadER rfl ti313 rfl (by first | decide | simp [lswC]) rfl ?_
    first | refine ec_move rfl rfl rfl ?_ | refine ec_moveO rfl rfl rfl ?_
    first | refine ec_move rfl rfl rfl ?_ | refine ec_moveO rfl rfl rfl ?_
    apply ec_scall (k := 283) (l' := P ++ srt x ++ Y')
    case ha => exact rfl
    case hi => trivial
    case hc => exact ctr_i2 (ctr_insertion (n := n) P x Y' (by omega) h6) (by omega) (by omega) (by simp) (by simp)
    case hd => exact rfl
    intro acc'
    refine ec_end (fun fr0 he => hK _ _ _ ?_ he)
    clear he fr0 hK K
    refine AWc_reg (fun K hK => ?_)
    first | refine ec_move rfl rfl rfl ?_ | refine ec_moveO rfl rfl rfl ?_
    first | refine ec_asg rfl rfl rfl ?_ | refine ec_asgO rfl rfl rfl ?_
    refine ec_end (fun fr0 he => hK _ _ _ ?_ he)
    clear he fr0 hK K
    refine AWc_reg1 (by repeat (with_reducible (first | exact qv_then | exact qv_loop | exact qv_join | exact qv_end | refine qv_block ?_))) (fun K hK => ?_)
    first | refine ec_move rfl rfl rfl ?_ | refine ec_moveO rfl rfl rfl ?_
    first | refine ec_move rfl rfl rfl ?_ | refine ec_moveO rfl rfl rfl ?_
    refine ec_add rfl rfl rfl (by omega) (by omega) ?_
    first | refine ec_asg rfl rfl rfl ?_ | refine ec_asgO rfl rfl rfl ?_
    refine ec_end (fun fr0 he => hK _ _ _ ?_ he)
    clear he fr0 hK K
    repeat (with_reducible (first | refine q_norm_then ?_ | refine q_norm_block ?_))
    refine loop_onw (t' := (X ++ x, P ++ srt x, Y')) ⟨by simp, DL_step hi2 hx, by simp [srt, srtK_length, hi3]⟩ (by simp only [List.length_append]; omega) (leFr_cons rfl (.refl _) (leFr_cons rfl (.refl _) (leFr_cons rfl (.refl _) (leFr_cons rfl (wk_int (by simp only [List.length_append, srt, srtK_length]; omega)) (leFr_cons rfl (wk_int (by simp only [List.length_append, srt, srtK_length]; omega)) trivial))))) (by first | rfl | (simp only [List.append_assoc]; rfl)) (ptr_own (by simp [frPtrs, AV.ptrs]))
  · skip
    have hY : Y.length < 20 := by have := of_decide_eq_false hc; omega
    apply AW_exit
    repeat (with_reducible (first | refine q_exit_then ?_ | refine q_exit_loop ?_ | refine q_exit_block ?_ | refine q_exit_join ?_ | refine q_exit_other (by decide) ?_))
    repeat (with_reducible (first | refine q_norm_then ?_ | refine q_norm_block ?_))
    repeat (with_reducible (first | refine q_norm_then ?_ | refine q_norm_block ?_))
    refine AWc_reg (fun K hK => ?_)
    first | refine ec_load rfl ti313 rfl rfl rfl rfl rfl ?_ | refine ec_loadE rfl ti313 rfl rfl rfl ?_ | refine ec_loadO rfl ti313 rfl rfl rfl rfl rfl ?_ | refine ec_loadR rfl ti313 rfl rfl (by decide) (by first | decide | simp [lswC]) rfl ?_ | refine ec_loadER rfl ti313 rfl (by first | decide | simp [lswC]) rfl ?_
    first | refine ec_move rfl rfl rfl ?_ | refine ec_moveO rfl rfl rfl ?_
    first | refine ec_move rfl rfl rfl ?_ | refine ec_moveO rfl rfl rfl ?_
    apply ec_scall (k := 283) (l' := P ++ srt Y)
    case ha => exact rfl
    case hi => trivial
    case hc => exact ctr_i2 (ctr_insertion (n := n) P Y [] (by simp; omega) h6) (by omega) (by omega) (by simp) (by simp)
    case hd => exact rfl
    intro acc'
    refine ec_end (fun fr0 he => hK _ _ _ ?_ he)
    clear he fr0 hK K
    apply AW_block
    refine AW_loopw (T := Nat × List J4) (fun t => Inv197b L t.1 t.2) (fun t => I197b n t.1 t.2) (fun t => n - t.1) (20, P ++ srt Y) ⟨Nat.le_refl _, (by omega), (by have := hi2 _ _ (Blk.last (key := Prod.fst) (s := 20) (l := Y) (by omega)); rw [← hi1] at this; exact this)⟩ (leFr_cons rfl (.refl _) (leFr_cons rfl (.refl _) (leFr_cons rfl (.refl _) trivial))) rfl (ptr_own (by simp [frPtrs, AV.ptrs])) ?_
    clear hc hi1 hi2 hi3 hXY hY
    rintro ⟨s, R⟩ ⟨hs, hsm, hB⟩
    show AW _ _ _ _ _ (I197b n s R)
    simp only at hs hsm hB
    have hRl := hB.len
    unfold I197b
    apply AW_seq
    refine AWc_reg (fun K hK => ?_)
    first | refine ec_move rfl rfl rfl ?_ | refine ec_moveO rfl rfl rfl ?_
    first | refine ec_move rfl rfl rfl ?_ | refine ec_moveO rfl rfl rfl ?_
    refine ec_bin rfl rfl rfl rfl ?_
    refine ec_end (fun fr0 he => hK _ _ _ ?_ he)
    clear he fr0 hK K
    refine AWc_iff rfl (fun hc => ?_) (fun hc => ?_)
    · skip
      have hsn : s < n := by have := of_decide_eq_true hc; omega
      apply AW_skip
      repeat (with_reducible (first | refine q_norm_then ?_ | refine q_norm_block ?_))
      apply AW_block
      refine AWc_reg (fun K hK => ?_)
      first | refine ec_move rfl rfl rfl ?_ | refine ec_moveO rfl rfl rfl ?_
      refine ec_bin rfl rfl rfl rfl ?_
      refine ec_eqv (v' := .int .i64 ((2 * s : Nat) : Int)) (mul_av (by omega) (by omega) (by omega)) ?_
      refine ec_asgC rfl rfl ?_
      first | refine ec_asg rfl rfl rfl ?_ | refine ec_asgO rfl rfl rfl ?_
      refine ec_end (fun fr0 he => hK _ _ _ ?_ he)
      clear he fr0 hK K
      apply AW_seq
      apply AW_block
      refine AW_loopw (T := List J4 × List J4 × List J4 × List J4) (fun t => Inv197c L s t.1 t.2.1 t.2.2.1 t.2.2.2) (fun t => I197c n s t.2.1 t.2.2.2) (fun t => t.2.2.2.length) ([], [], L, R) ⟨rfl, DL_nil, hB, rfl⟩ (leFr_cons rfl (.refl _) (leFr_cons rfl (.refl _) (leFr_cons rfl (.refl _) (leFr_cons rfl (.refl _) (leFr_cons rfl (wk_int (by first | omega | (simp; omega) | (simp; done))) trivial))))) rfl (ptr_own (by simp [frPtrs, AV.ptrs])) ?_
      rintro ⟨X, P, Y, r⟩ ⟨hi1, hi2, hi3, hi4⟩
      show AW _ _ _ _ _ (I197c n s P r)
      simp only at hi1 hi2 hi3 hi4
      have hXY : L.length = X.length + Y.length := by rw [hi1]; simp
      have hrY := hi3.len
      unfold I197c
      apply AW_seq
      refine AWc_reg (fun K hK => ?_)
      first | refine ec_move rfl rfl rfl ?_ | refine ec_moveO rfl rfl rfl ?_
      first | refine ec_move rfl rfl rfl ?_ | refine ec_moveO rfl rfl rfl ?_
      refine ec_bin rfl rfl rfl rfl ?_
      refine ec_end (fun fr0 he => hK _ _ _ ?_ he)
      clear he fr0 hK K
      refine AWc_iff rfl (fun hc => ?_) (fun hc => ?_)
      · skip
        have hr : 2 * s ≤ r.length := by have := of_decide_eq_true hc; omega
        obtain ⟨x, y, Y', r', hx, hy, rfl, rfl, hB'⟩ := hi3.two hr
        subst hi1
        simp only [List.length_append, srtK_length] at hXY hL hrY
        apply AW_skip
        repeat (with_reducible (first | refine q_norm_then ?_ | refine q_norm_block ?_))
        apply AW_block
        refine AWc_reg (fun K hK => ?_)
        first | refine ec_load rfl ti313 rfl rfl rfl rfl rfl ?_ | refine ec_loadE rfl ti313 rfl rfl rfl ?_ | refine ec_loadO rfl ti313 rfl rfl rfl rfl rfl ?_ | refine ec_loadR rfl ti313 rfl rfl (by decide) (by first | decide | simp [lswC]) rfl ?_ | refine ec_loadER rfl ti313 rfl (by first | decide | simp [lswC]) rfl ?_
        first | refine ec_move rfl rfl rfl ?_ | refine ec_moveO rfl rfl rfl ?_
        first | refine ec_move rfl rfl rfl ?_ | refine ec_moveO rfl rfl rfl ?_
        first | refine ec_move rfl rfl rfl ?_ | refine ec_moveO rfl rfl rfl ?_
        refine ec_add rfl rfl rfl (by omega) (by omega) ?_
        first | refine ec_move rfl rfl rfl ?_ | refine ec_moveO rfl rfl rfl ?_
        apply ec_scall (k := 284) (l' := P ++ srt (x ++ y) ++ r')
        case ha => exact rfl
        case hi => trivial
        case hc => exact ctr_i3 (ctr_symMerge (n := n) h6 _ P (srt x) (srt y) r' (Nat.le_refl _) (by simp only [srt, srtK_length]; omega) (by simp only [srt, srtK_length]; omega) (srtK_isSrt _) (srtK_isSrt _) (by simp only [srt, srtK_length]; omega)) (by omega) (by simp only [srt, srtK_length]; omega) (by simp only [srt, srtK_length]; omega) (by simp [srt]) (by simp only [srt, srtK_app])
        case hd => exact rfl
        intro acc'
        refine ec_end (fun fr0 he => hK _ _ _ ?_ he)
        clear he fr0 hK K
        refine AWc_reg (fun K hK => ?_)
        first | refine ec_move rfl rfl rfl ?_ | refine ec_moveO rfl rfl rfl ?_
        first | refine ec_asg rfl rfl rfl ?_ | refine ec_asgO rfl rfl rfl ?_
        refine ec_end (fun fr0 he => hK _ _ _ ?_ he)
        clear he fr0 hK K
        refine AWc_reg1 (by repeat (with_reducible (first | exact qv_then | exact qv_loop | exact qv_join | exact qv_end | refine qv_block ?_))) (fun K hK => ?_)
        first | refine ec_move rfl rfl rfl ?_ | refine ec_moveO rfl rfl rfl ?_
        first | refine ec_move rfl rfl rfl ?_ | refine ec_moveO rfl rfl rfl ?_
        refine ec_bin rfl rfl rfl rfl ?_
        refine ec_eqv (v' := .int .i64 ((2 * s : Nat) : Int)) (mul_av (by omega) (by omega) (by omega)) ?_
        refine ec_add rfl rfl rfl (by omega) (by omega) ?_
        first | refine ec_asg rfl rfl rfl ?_ | refine ec_asgO rfl rfl rfl ?_
        refine ec_end (fun fr0 he => hK _ _ _ ?_ he)
        clear he fr0 hK K
        repeat (with_reducible (first | refine q_norm_then ?_ | refine q_norm_block ?_))
        refine loop_onw (t' := (X ++ (x ++ y), P ++ srt (x ++ y), Y', r')) ⟨by simp, DL_step hi2 (by simp; omega), hB', by simp only [List.length_append, srt, srtK_length]; omega⟩ (by simp only [List.length_append, srt, srtK_length]; omega) (leFr_cons rfl (.refl _) (leFr_cons rfl (.refl _) (leFr_cons rfl (.refl _) (leFr_cons rfl (wk_int (by simp only [List.length_append, srt, srtK_length]; omega)) (leFr_cons rfl (wk_int (by simp only [List.length_append, srt, srtK_length]; omega)) trivial))))) rfl (ptr_own (by simp [frPtrs, AV.ptrs]))
      · skip
        have hr : r.length < 2 * s := by have := of_decide_eq_false hc; omega
        apply AW_exit
        repeat (with_reducible (first | refine q_exit_then ?_ | refine q_exit_loop ?_ | refine q_exit_block ?_ | refine q_exit_join ?_ | refine q_exit_other (by decide) ?_))
        repeat (with_reducible (first | refine q_norm_then ?_ | refine q_norm_block ?_))
        repeat (with_reducible (first | refine q_norm_then ?_ | refine q_norm_block ?_))
        refine AW_join (T := List J4) (fun R2 => Blk Prod.fst (2 * s) L R2) (fun R2 => I197b n s R2) ?_ ?_
        · skip
          refine AWc_reg (fun K hK => ?_)
          first | refine ec_move rfl rfl rfl ?_ | refine ec_moveO rfl rfl rfl ?_
          first | refine ec_move rfl rfl rfl ?_ | refine ec_moveO rfl rfl rfl ?_
          refine ec_add rfl rfl rfl (by omega) (by omega) ?_
          first | refine ec_asg rfl rfl rfl ?_ | refine ec_asgO rfl rfl rfl ?_
          refine ec_end (fun fr0 he => hK _ _ _ ?_ he)
          clear he fr0 hK K
          refine AWc_reg (fun K hK => ?_)
          first | refine ec_move rfl rfl rfl ?_ | refine ec_moveO rfl rfl rfl ?_
          first | refine ec_move rfl rfl rfl ?_ | refine ec_moveO rfl rfl rfl ?_
          refine ec_bin rfl rfl rfl rfl ?_
          refine ec_end (fun fr0 he => hK _ _ _ ?_ he)
          clear he fr0 hK K
          refine AWc_iff rfl (fun hc => ?_) (fun hc => ?_)
          · skip
            have hr1 : s < r.length := by have := of_decide_eq_true hc; omega
            obtain ⟨x, y, hx, hy0, hy, rfl, rfl⟩ := hi3.oneHalf hr1 hr
            subst hi1
            simp only [List.length_append, srtK_length] at hXY hL hrY hr1 hr
            refine AWc_reg1 (by repeat (with_reducible (first | exact qv_then | exact qv_loop | exact qv_join | exact qv_end | refine qv_block ?_))) (fun K hK => ?_)
            first | refine ec_load rfl ti313 rfl rfl rfl rfl rfl ?_ | refine ec_loadE rfl ti313 rfl rfl rfl ?_ | refine ec_loadO rfl ti313 rfl rfl rfl rfl rfl ?_ | refine ec_loadR rfl ti313 rfl rfl (by decide) (by first | decide | simp [lswC]) rfl ?_ | refine ec_loadER rfl ti313 rfl (by first | decide | simp [lswC]) rfl ?_
            first | refine ec_move rfl rfl rfl ?_ | refine ec_moveO rfl rfl rfl ?_
            first | refine ec_move rfl rfl rfl ?_ | refine ec_moveO rfl rfl rfl ?_
            first | refine ec_move rfl rfl rfl ?_ | refine ec_moveO rfl rfl rfl ?_
            apply ec_scall (k := 284) (l' := P ++ srt (x ++ y))
            case ha => exact rfl
            case hi => trivial
            case hc => exact ctr_i3 (ctr_symMerge (n := n) h6 _ P (srt x) (srt y) [] (Nat.le_refl _) (by simp only [srt, srtK_length]; omega) (by simp only [srt, srtK_length]; omega) (srtK_isSrt _) (srtK_isSrt _) (by simp only [srt, srtK_length, List.length_nil]; omega)) (by omega) (by simp only [srt, srtK_length]; omega) (by simp only [srt, srtK_length]; omega) (by simp [srt]) (by simp only [srt, srtK_app, List.append_nil])
            case hd => exact rfl
            intro acc'
            refine ec_end (fun fr0 he => hK _ _ _ ?_ he)
            clear he fr0 hK K
            repeat (with_reducible (first | refine q_norm_then ?_ | refine q_norm_block ?_))
            refine join_at (t := P ++ srt (x ++ y)) (hi2 _ _ (Blk.last (by simp; omega))) (leFr_cons rfl (.refl _) (leFr_cons rfl (.refl _) (leFr_cons rfl (.refl _) trivial))) rfl (ptr_own (by simp [frPtrs, AV.ptrs]))
          · skip
            have hr1 : r.length ≤ s := by have := of_decide_eq_false hc; omega
            have hre := hi3.small hr1
            apply AW_skip
            repeat (with_reducible (first | refine q_norm_then ?_ | refine q_norm_block ?_))
            refine join_at (t := P ++ r) (by rw [hre, hi1]; exact hi2 _ _ (Blk.last (by omega))) (leFr_cons rfl (.refl _) (leFr_cons rfl (.refl _) (leFr_cons rfl (.refl _) trivial))) rfl (ptr_own (by simp [frPtrs, AV.ptrs]))
        · skip
          intro R2 hR2
          unfold I197b
          refine AWc_reg1 (by repeat (with_reducible (first | exact qv_then | exact qv_loop | exact qv_join | exact qv_end | refine qv_block ?_))) (fun K hK => ?_)
          first | refine ec_move rfl rfl rfl ?_ | refine ec_moveO rfl rfl rfl ?_
          refine ec_bin rfl rfl rfl rfl ?_
          refine ec_eqv (v' := .int .i64 ((2 * s : Nat) : Int)) (mul_av (by omega) (by omega) (by omega)) ?_
          first | refine ec_asg rfl rfl rfl ?_ | refine ec_asgO rfl rfl rfl ?_
          refine ec_end (fun fr0 he => hK _ _ _ ?_ he)
          clear he fr0 hK K
          repeat (with_reducible (first | refine q_norm_then ?_ | refine q_norm_block ?_))
          refine loop_onw (t' := (2 * s, R2)) ⟨(by show 20 ≤ 2 * s; omega), (by show 2 * s ≤ 2000000; omega), hR2⟩ (by show n - 2 * s < n - s; omega) (leFr_cons rfl (.refl _) (leFr_cons rfl (.refl _) (leFr_cons rfl (.refl _) trivial))) rfl (ptr_own (by simp [frPtrs, AV.ptrs]))
    · skip
      have hsn : n ≤ s := by have := of_decide_eq_false hc; omega
      have hfin := hB.small (by omega)
      apply AW_exit
      repeat (with_reducible (first | refine q_exit_then ?_ | refine q_exit_loop ?_ | refine q_exit_block ?_ | refine q_exit_join ?_ | refine q_exit_other (by decide) ?_))
      repeat (with_reducible (first | refine q_norm_then ?_ | refine q_norm_block ?_))
      repeat (with_reducible (first | refine q_norm_then ?_ | refine q_norm_block ?_))
      refine end_ret (.inr rfl) rfl (.refl _) ?_ (by simp [smN])
      rw [hfin]; exact leMem_smN _ _ _
end Go.Aw
end
section
set_option linter.unusedSimpArgs false
set_option linter.unusedVariables false
set_option maxRecDepth 100000
set_option maxHeartbeats 1000000
namespace Go.Aw
open Go.Proofs Go.So
section
variable {P : Program} [GT P] {nt : Nat} {all rest : List Oper} {fr : List (Nat × AV)} {mem : List (List AV)} {acc : List Fp} {K : List Fp → St → Prop} {KP : List Fp → AV → St → Prop}
  {ty t e : TypeId} {pos : String} {aft : Array Edge} {d s : Nat} {x : Operand} {u v : AV}
theorem ev_eqNil {t' : TypeId} {b : Bool} (hx : St.ev ⟨fr, mem⟩ x = some u) (hb : nilTest u = some b) (ht : isSliceT P t = true) (hd : Nat.blt d nt = true)
    (h : evalOps P nt all rest ⟨setA fr d (.bool b), mem⟩ (⟨rdLocs (rdOf x u), [(false, d)]⟩ :: acc) K KP) :
    evalOps P nt all (⟨some d, .binOp .eql t x (.const (.slice none 0 0)) t', ty, pos, aft, none⟩ :: rest) ⟨fr, mem⟩ acc K KP :=
  ev_step rfl (fun _ _ _ h => by cases h) (fun _ _ _ h => by cases h) (rds := rdOf x u) (wrs := [Wr.s d (some (.bool b))])
    (fun k hk => by
      have h1 : nEqNil P nt (some d) .eql t x ⟨fr, mem⟩ = some (lt d nt && true, rdOf x u, [Wr.s d (some (.bool b))]) := by
        unfold nEqNil
        simp only [hx, hb, ht]
      simp only [stepOp, xNew, h1]
      exact ⟨by simp only [lt, hd, Bool.and_self], hk⟩) h
theorem ec_eqNil {t' : TypeId} {b : Bool} (hx : St.ev ⟨fr, mem⟩ x = some u) (hb : nilTest u = some b) (ht : isSliceT P t = true) (hd : Nat.blt d nt = true)
    (h : EVc P nt all rest ((d, .bool b) :: fr) mem (⟨rdLocs (rdOf x u), [(false, d)]⟩ :: acc) K KP) :
    EVc P nt all (⟨some d, .binOp .eql t x (.const (.slice none 0 0)) t', ty, pos, aft, none⟩ :: rest) fr mem acc K KP :=
  fun fr0 e => ev_eqNil ((ev_congr e _).trans hx) hb ht hd (h _ (fun t' => by simp only [skFr, getA_setA, getA_cons, e]))
theorem ev_appendN {tx : TypeId} {te : TI} {ys : List (List AV)} (hm : GT.mutT P t = true) (ht : tdOf P t = some (.slice e)) (he : tiOf P e = some te) (hs : getA fr s = some .nils) (hx : St.ev ⟨fr, mem⟩ x = some u) (hu : srcEls u = some ys) (hne : ys ≠ [])
    (hd : Nat.blt d nt = true) (h0 : Nat.blt 0 te.size = true) (hk : srcKindB P te.size tx u = true) (hys : allLenB te.size ys = true) (hb : (0 + ys.length) * te.bytes ≤ 140737488355328) (h63 : ys.length ≤ 9223372036854775807)
    (h : evalOps P nt all rest ⟨setA fr d (.msl mem.length 0 ys.length te.size), setM mem mem.length ys.flatten⟩ (mkFp ([Rd.s s .nils] ++ rdOf x u ++ [Rd.new mem.length]) [Wr.o mem.length ys.flatten, Wr.s d (some (.msl mem.length 0 ys.length te.size))] :: acc) K KP) :
    evalOps P nt all (⟨some d, .call { callee := .builtin .append, args := #[.tmp s, x], argTypes := #[t, tx] }, ty, pos, aft, none⟩ :: rest) ⟨fr, mem⟩ acc K KP :=
  ev_step rfl (fun _ _ _ h => by cases h) (fun _ _ _ h => by cases h) (rds := [Rd.s s .nils] ++ rdOf x u ++ [Rd.new mem.length]) (wrs := [Wr.o mem.length ys.flatten, Wr.s d (some (.msl mem.length 0 ys.length te.size))])
    (fun k hkk => by
      cases ys with
      | nil => exact absurd rfl hne
      | cons y r =>
        have h1 : nAppendM P nt (some d) t tx s x ⟨fr, mem⟩ = some (lt d nt && (Nat.blt 0 te.size && (srcKindB P te.size tx u && (allLenB te.size (y :: r) && (Nat.ble ((0 + (y :: r).length) * te.bytes) 140737488355328 && Nat.ble (y :: r).length 9223372036854775807)))),
            [Rd.s s .nils] ++ rdOf x u ++ [Rd.new mem.length], [Wr.o mem.length (y :: r).flatten, Wr.s d (some (.msl mem.length 0 (y :: r).length te.size))]) := by
          unfold nAppendM
          simp only [ht, hs, hx, he, hu, hm, ↓reduceIte]
        simp only [stepOp, xNew, h1]
        exact ⟨by simp only [lt, hd, h0, hk, hys, Nat.ble_eq_true_of_le hb, Nat.ble_eq_true_of_le h63, Bool.and_self], hkk⟩) h
theorem ec_appendN {tx : TypeId} {te : TI} {ys : List (List AV)} (hm : GT.mutT P t = true) (ht : tdOf P t = some (.slice e)) (he : tiOf P e = some te) (hs : getA fr s = some .nils) (hx : St.ev ⟨fr, mem⟩ x = some u) (hu : srcEls u = some ys) (hne : ys ≠ [])
    (hd : Nat.blt d nt = true) (h0 : Nat.blt 0 te.size = true) (hk : srcKindB P te.size tx u = true) (hys : allLenB te.size ys = true) (hb : (0 + ys.length) * te.bytes ≤ 140737488355328) (h63 : ys.length ≤ 9223372036854775807)
    (h : EVc P nt all rest ((d, .msl mem.length 0 ys.length te.size) :: fr) (setM mem mem.length ys.flatten) (mkFp ([Rd.s s .nils] ++ rdOf x u ++ [Rd.new mem.length]) [Wr.o mem.length ys.flatten, Wr.s d (some (.msl mem.length 0 ys.length te.size))] :: acc) K KP) :
    EVc P nt all (⟨some d, .call { callee := .builtin .append, args := #[.tmp s, x], argTypes := #[t, tx] }, ty, pos, aft, none⟩ :: rest) fr mem acc K KP :=
  fun fr0 e => ev_appendN hm ht he ((e _).trans hs) ((ev_congr e _).trans hx) hu hne hd h0 hk hys hb h63 (h _ (fun t' => by simp only [skFr, getA_setA, getA_cons, e]))
end
theorem rows_lenB : ∀ l : List J4, allLenB 4 (rowsJ l) = true
  | [] => rfl
  | x :: l => by have := rows_lenB l; rw [allLenB] at this ⊢; rw [rowsJ, List.map_cons, List.all_cons]; rw [rowsJ] at this; rw [this]; rfl
theorem rows_chunks : ∀ l : List J4, chunks 4 (flatJ l) l.length = rowsJ l
  | [] => rfl
  | x :: l => by
    rw [flat_cons, List.length_cons, chunks]
    rw [show (encJ x ++ flatJ l).take 4 = encJ x from rfl, show (encJ x ++ flatJ l).drop 4 = flatJ l from rfl, rows_chunks l]
    rfl
theorem data_flat : ∀ l : List J4, (flatJ l).all AV.data = true
  | [] => rfl
  | x :: l => by rw [flat_cons, List.all_append, data_flat l]; rfl
theorem nilTest_rows {l : List J4} (h : l ≠ []) : nilTest (.list none (rowsJ l)) = some false := by
  cases l with
  | nil => exact absurd rfl h
  | cons x l => rfl
end Go.Aw
end
section
set_option linter.unusedSimpArgs false
set_option linter.unusedVariables false
set_option maxRecDepth 100000
set_option maxHeartbeats 1000000
namespace Go.Aw
open Go.Proofs Go.So
def I39 (l : List J4) (i : Nat) : St := ⟨[(0, .list none (rowsJ l)), (3, .list (some 4) (rowsJ (l.take i))), (4, .int .i64 (i : Int))], []⟩
def I36 (l : List J4) (i : Nat) : St := ⟨[(0, .list none (rowsJ l)), (1, .list none (rowsJ l)), (5, .int .i64 (i : Int))], []⟩
def I40 (l : List J4) (i : Nat) : St := ⟨[(0, .list none (rowsJ l)), (3, .list none (rowsJ (srt (l.take i)))), (4, .int .i64 (i : Int))], []⟩
def I40b (l : List J4) (i : Nat) (S1 S2 : List J4) : St := ⟨[(0, .list none (rowsJ l)), (3, .list none (rowsJ (S1 ++ S2))), (4, .int .i64 (i : Int)), (5, .int .i64 S1.length)], []⟩
theorem sl_lo (S1 S2 : List J4) : ((rowsJ (S1 ++ S2)).take (((rowsJ (S1 ++ S2)).length : Nat) : Int).toNat).drop ((S1.length : Nat) : Int).toNat = rowsJ S2 := by rw [Int.toNat_natCast, Int.toNat_natCast, List.take_length]; simp [rowsJ]
theorem sl_hi (S1 S2 : List J4) : ((rowsJ (S1 ++ S2)).take ((S1.length : Nat) : Int).toNat).drop (0 : Int).toNat = rowsJ S1 := by rw [Int.toNat_natCast]; simp [rowsJ]
theorem wk_rows {r : List (List AV)} {L : List J4} (h : r = rowsJ L) : Wk (.list (some 4) r) (.list none (rowsJ L)) := by subst h; exact .ro _ _
theorem flds80 : ∃ fs, fieldsOf Tryz.prog 80 = some fs ∧ ∀ a b c d : Int, flatF Tryz.prog 0 fs [.int .i64 a, .int .i64 b, .int .i64 c, .int .i64 d] = true := ⟨_, rfl, fun _ _ _ _ => rfl⟩
/-- ours -/
theorem ctr_ours (l : List J4) (hl : l.length ≤ 1000) : Ctr Tryz.prog 39 [.list none (rowsJ l)] [] (.ret (.list none (rowsJ l))) [] := by
  refine ctr_of (rs := [.tmp 2]) (nt := 36) Tryz.func39 rfl rfl (enters_of Tryz.func39 rfl (by decide)) rfl (by decide) (by simp) (by simp) ?_
  refine AWc_reg (fun K hK => ?_)
  refine ec_asgC rfl rfl ?_
  refine ec_end (fun fr0 he => hK _ _ _ ?_ he)
  clear he fr0 hK K
  refine AWc_reg (fun K hK => ?_)
  refine ec_asgC rfl rfl ?_
  refine ec_end (fun fr0 he => hK _ _ _ ?_ he)
  clear he fr0 hK K
  apply AW_seq
  refine AWc_reg (fun K hK => ?_)
  refine ec_asgC rfl rfl ?_
  refine ec_end (fun fr0 he => hK _ _ _ ?_ he)
  clear he fr0 hK K
  apply AW_block
  refine AW_loopw (T := Nat) (fun i => i ≤ l.length) (I39 l) (fun i => l.length - i) 0 (Nat.zero_le _) (leFr_cons rfl (.refl _) (leFr_cons rfl (.nilslOwn _) (leFr_cons rfl (.refl _) trivial))) rfl ⟨Nat.zero_le _, trivial, trivial⟩ ?_
  intro i hi
  unfold I39
  apply AW_seq
  refine AWc_reg (fun K hK => ?_)
  first | refine ec_move rfl rfl rfl ?_ | refine ec_moveO rfl rfl rfl ?_
  first | refine ec_move rfl rfl rfl ?_ | refine ec_moveO rfl rfl rfl ?_
  first | refine ec_lenL td71 rfl rfl ?_ | refine ec_lenM td71 rfl rfl ?_ | refine ec_lenN td71 rfl rfl ?_ | refine ec_lenS td71 rfl rfl ?_
  refine ec_bin rfl rfl rfl rfl ?_
  refine ec_end (fun fr0 he => hK _ _ _ ?_ he)
  clear he fr0 hK K
  refine AWc_iff rfl (fun hc => ?_) (fun hc => ?_)
  · skip
    have hlt : i < l.length := by have := of_decide_eq_true hc; simp [rowsJ] at this; omega
    obtain ⟨x, hx⟩ : ∃ x, l[i]? = some x := ⟨_, List.getElem?_eq_getElem hlt⟩
    have hrow := rows_get hx
    apply AW_skip
    repeat (with_reducible (first | refine q_norm_then ?_ | refine q_norm_block ?_))
    apply AW_seq
    apply AW_block
    refine AWc_draw z_mixed (by repeat (with_reducible (first | exact qv_then | exact qv_loop | exact qv_join | exact qv_end | refine qv_block ?_))) (fun K hK => ?_)
    first | refine ec_move rfl rfl rfl ?_ | refine ec_moveO rfl rfl rfl ?_
    first | refine ec_move rfl rfl rfl ?_ | refine ec_moveO rfl rfl rfl ?_
    first | refine ec_move rfl rfl rfl ?_ | refine ec_moveO rfl rfl rfl ?_
    first | refine ec_indexL td71 ti80 rfl rfl rfl (by omega) (by assumption) rfl ?_ | refine ec_indexM td71 ti80 rfl rfl rfl rfl (by omega) (by omega) ?_
    refine ec_fieldAddr td80 rfl rfl rfl rfl rfl ?_
    first | refine ec_load rfl ti3 rfl rfl rfl rfl rfl ?_ | refine ec_loadE rfl ti3 rfl rfl rfl ?_ | refine ec_loadO rfl ti3 rfl rfl rfl rfl rfl ?_ | refine ec_loadR rfl ti3 rfl rfl (by decide) (by first | decide | simp [lswC]) rfl ?_ | refine ec_loadER rfl ti3 rfl (by first | decide | simp [lswC]) rfl ?_
    first | refine ec_move rfl rfl rfl ?_ | refine ec_moveO rfl rfl rfl ?_
    first | refine ec_move rfl rfl rfl ?_ | refine ec_moveO rfl rfl rfl ?_
    first | refine ec_indexL td71 ti80 rfl rfl rfl (by omega) (by assumption) rfl ?_ | refine ec_indexM td71 ti80 rfl rfl rfl rfl (by omega) (by omega) ?_
    refine ec_fieldAddr td80 rfl rfl rfl rfl rfl ?_
    first | refine ec_load rfl ti3 rfl rfl rfl rfl rfl ?_ | refine ec_loadE rfl ti3 rfl rfl rfl ?_ | refine ec_loadO rfl ti3 rfl rfl rfl rfl rfl ?_ | refine ec_loadR rfl ti3 rfl rfl (by decide) (by first | decide | simp [lswC]) rfl ?_ | refine ec_loadER rfl ti3 rfl (by first | decide | simp [lswC]) rfl ?_
    first | refine ec_move rfl rfl rfl ?_ | refine ec_moveO rfl rfl rfl ?_
    first | refine ec_move rfl rfl rfl ?_ | refine ec_moveO rfl rfl rfl ?_
    first | refine ec_indexL td71 ti80 rfl rfl rfl (by omega) (by assumption) rfl ?_ | refine ec_indexM td71 ti80 rfl rfl rfl rfl (by omega) (by omega) ?_
    refine ec_fieldAddr td80 rfl rfl rfl rfl rfl ?_
    first | refine ec_load rfl ti3 rfl rfl rfl rfl rfl ?_ | refine ec_loadE rfl ti3 rfl rfl rfl ?_ | refine ec_loadO rfl ti3 rfl rfl rfl rfl rfl ?_ | refine ec_loadR rfl ti3 rfl rfl (by decide) (by first | decide | simp [lswC]) rfl ?_ | refine ec_loadER rfl ti3 rfl (by first | decide | simp [lswC]) rfl ?_
    first | refine ec_move rfl rfl rfl ?_ | refine ec_moveO rfl rfl rfl ?_
    first | refine ec_move rfl rfl rfl ?_ | refine ec_moveO rfl rfl rfl ?_
    first | refine ec_indexL td71 ti80 rfl rfl rfl (by omega) (by assumption) rfl ?_ | refine ec_indexM td71 ti80 rfl rfl rfl rfl (by omega) (by omega) ?_
    refine ec_fieldAddr td80 rfl rfl rfl rfl rfl ?_
    first | refine ec_load rfl ti3 rfl rfl rfl rfl rfl ?_ | refine ec_loadE rfl ti3 rfl rfl rfl ?_ | refine ec_loadO rfl ti3 rfl rfl rfl rfl rfl ?_ | refine ec_loadR rfl ti3 rfl rfl (by decide) (by first | decide | simp [lswC]) rfl ?_ | refine ec_loadER rfl ti3 rfl (by first | decide | simp [lswC]) rfl ?_
    refine ec_build (r2 := [_, _, _, _]) ti77 rfl rfl rfl rfl rfl rfl rfl ?_
    refine ec_buildSlice (rows := [[_, _, _, _]]) td62 ti77 rfl rfl rfl rfl rfl rfl rfl rfl ?_
    refine ec_append td62 ti77 rfl rfl (.inl (by intro h; cases h)) (.inr mN62) rfl rfl rfl (by decide) (by decide) ⟨_, td62⟩ (by intro j y hj; cases j with | zero => injection hj with hj; subst hj; rfl | succ j => cases hj) (by simp [rowsJ]; omega) (by simp [rowsJ]; omega) ?_
    first | refine ec_asg rfl rfl rfl ?_ | refine ec_asgO rfl rfl rfl ?_
    refine ec_end (fun fr0 he => hK _ _ _ _ (by kernel_rfl) ?_ he)
    clear he fr0 hK K
    repeat (with_reducible (first | refine q_norm_then ?_ | refine q_norm_block ?_))
    refine AWc_reg1 (by repeat (with_reducible (first | exact qv_then | exact qv_loop | exact qv_join | exact qv_end | refine qv_block ?_))) (fun K hK => ?_)
    first | refine ec_move rfl rfl rfl ?_ | refine ec_moveO rfl rfl rfl ?_
    refine ec_add rfl rfl rfl (by omega) (by omega) ?_
    first | refine ec_asg rfl rfl rfl ?_ | refine ec_asgO rfl rfl rfl ?_
    refine ec_end (fun fr0 he => hK _ _ _ ?_ he)
    clear he fr0 hK K
    refine loop_onw (t' := i + 1) (by omega) (by omega) (leFr_cons rfl (.refl _) (leFr_cons rfl ?_ (leFr_cons rfl (.refl _) trivial))) rfl ⟨Nat.zero_le _, trivial, trivial⟩
    rw [List.take_add_one, hx]; simp only [Option.toList_some, rowsJ, List.map_append, List.map_cons, List.map_nil]; exact .refl _
  · skip
    have hge : l.length ≤ i := by have := of_decide_eq_false hc; simp [rowsJ] at this; omega
    obtain rfl : i = l.length := by omega
    apply AW_exit
    repeat (with_reducible (first | refine q_exit_then ?_ | refine q_exit_loop ?_ | refine q_exit_block ?_ | refine q_exit_join ?_ | refine q_exit_other (by decide) ?_))
    repeat (with_reducible (first | refine q_norm_then ?_ | refine q_norm_block ?_))
    repeat (with_reducible (first | refine q_norm_then ?_ | refine q_norm_block ?_))
    refine AWc_reg (fun K hK => ?_)
    first | refine ec_move rfl rfl rfl ?_ | refine ec_moveO rfl rfl rfl ?_
    first | refine ec_asg rfl rfl rfl ?_ | refine ec_asgO rfl rfl rfl ?_
    refine ec_end (fun fr0 he => hK _ _ _ ?_ he)
    clear he fr0 hK K
    apply AW_ret
    repeat (with_reducible (first | refine q_ret_then ?_ | refine q_ret_loop ?_ | refine q_ret_block ?_ | refine q_ret_join ?_))
    exact end_ret (.inl rfl) rfl (by rw [List.take_length]; exact .ro _ _) (by first | trivial | exact leMem_refl _) (Nat.zero_le _)

/-- theirs -/
theorem ctr_theirs (l : List J4) (hl : l.length ≤ 1000) : Ctr Tryz.prog 37 [.list none (rowsJ l)] [] (.ret (.list none (rowsJ l))) [] := by
  refine ctr_of (rs := [.tmp 2]) (nt := 36) Tryz.func37 rfl rfl (enters_of Tryz.func37 rfl (by decide)) rfl (by decide) (by simp) (by simp) ?_
  refine AWc_reg (fun K hK => ?_)
  refine ec_asgC rfl rfl ?_
  refine ec_end (fun fr0 he => hK _ _ _ ?_ he)
  clear he fr0 hK K
  refine AWc_reg (fun K hK => ?_)
  refine ec_asgC rfl rfl ?_
  refine ec_end (fun fr0 he => hK _ _ _ ?_ he)
  clear he fr0 hK K
  apply AW_seq
  refine AWc_reg (fun K hK => ?_)
  refine ec_asgC rfl rfl ?_
  refine ec_end (fun fr0 he => hK _ _ _ ?_ he)
  clear he fr0 hK K
  apply AW_block
  refine AW_loopw (T := Nat) (fun i => i ≤ l.length) (I39 l) (fun i => l.length - i) 0 (Nat.zero_le _) (leFr_cons rfl (.refl _) (leFr_cons rfl (.nilslOwn _) (leFr_cons rfl (.refl _) trivial))) rfl ⟨Nat.zero_le _, trivial, trivial⟩ ?_
  intro i hi
  unfold I39
  apply AW_seq
  refine AWc_reg (fun K hK => ?_)
  first | refine ec_move rfl rfl rfl ?_ | refine ec_moveO rfl rfl rfl ?_
  first | refine ec_move rfl rfl rfl ?_ | refine ec_moveO rfl rfl rfl ?_
  first | refine ec_lenL td62 rfl rfl ?_ | refine ec_lenM td62 rfl rfl ?_ | refine ec_lenN td62 rfl rfl ?_ | refine ec_lenS td62 rfl rfl ?_
  refine ec_bin rfl rfl rfl rfl ?_
  refine ec_end (fun fr0 he => hK _ _ _ ?_ he)
  clear he fr0 hK K
  refine AWc_iff rfl (fun hc => ?_) (fun hc => ?_)
  · skip
    have hlt : i < l.length := by have := of_decide_eq_true hc; simp [rowsJ] at this; omega
    obtain ⟨x, hx⟩ : ∃ x, l[i]? = some x := ⟨_, List.getElem?_eq_getElem hlt⟩
    have hrow := rows_get hx
    apply AW_skip
    repeat (with_reducible (first | refine q_norm_then ?_ | refine q_norm_block ?_))
    apply AW_seq
    apply AW_block
    refine AWc_draw z_mixed (by repeat (with_reducible (first | exact qv_then | exact qv_loop | exact qv_join | exact qv_end | refine qv_block ?_))) (fun K hK => ?_)
    first | refine ec_move rfl rfl rfl ?_ | refine ec_moveO rfl rfl rfl ?_
    first | refine ec_move rfl rfl rfl ?_ | refine ec_moveO rfl rfl rfl ?_
    first | refine ec_move rfl rfl rfl ?_ | refine ec_moveO rfl rfl rfl ?_
    first | refine ec_indexL td62 ti77 rfl rfl rfl (by omega) (by assumption) rfl ?_ | refine ec_indexM td62 ti77 rfl rfl rfl rfl (by omega) (by omega) ?_
    refine ec_fieldAddr td77 rfl rfl rfl rfl rfl ?_
    first | refine ec_load rfl ti3 rfl rfl rfl rfl rfl ?_ | refine ec_loadE rfl ti3 rfl rfl rfl ?_ | refine ec_loadO rfl ti3 rfl rfl rfl rfl rfl ?_ | refine ec_loadR rfl ti3 rfl rfl (by decide) (by first | decide | simp [lswC]) rfl ?_ | refine ec_loadER rfl ti3 rfl (by first | decide | simp [lswC]) rfl ?_
    first | refine ec_move rfl rfl rfl ?_ | refine ec_moveO rfl rfl rfl ?_
    first | refine ec_move rfl rfl rfl ?_ | refine ec_moveO rfl rfl rfl ?_
    first | refine ec_indexL td62 ti77 rfl rfl rfl (by omega) (by assumption) rfl ?_ | refine ec_indexM td62 ti77 rfl rfl rfl rfl (by omega) (by omega) ?_
    refine ec_fieldAddr td77 rfl rfl rfl rfl rfl ?_
    first | refine ec_load rfl ti3 rfl rfl rfl rfl rfl ?_ | refine ec_loadE rfl ti3 rfl rfl rfl ?_ | refine ec_loadO rfl ti3 rfl rfl rfl rfl rfl ?_ | refine ec_loadR rfl ti3 rfl rfl (by decide) (by first | decide | simp [lswC]) rfl ?_ | refine ec_loadER rfl ti3 rfl (by first | decide | simp [lswC]) rfl ?_
    first | refine ec_move rfl rfl rfl ?_ | refine ec_moveO rfl rfl rfl ?_
    first | refine ec_move rfl rfl rfl ?_ | refine ec_moveO rfl rfl rfl ?_
    first | refine ec_indexL td62 ti77 rfl rfl rfl (by omega) (by assumption) rfl ?_ | refine ec_indexM td62 ti77 rfl rfl rfl rfl (by omega) (by omega) ?_
    refine ec_fieldAddr td77 rfl rfl rfl rfl rfl ?_
    first | refine ec_load rfl ti3 rfl rfl rfl rfl rfl ?_ | refine ec_loadE rfl ti3 rfl rfl rfl ?_ | refine ec_loadO rfl ti3 rfl rfl rfl rfl rfl ?_ | refine ec_loadR rfl ti3 rfl rfl (by decide) (by first | decide | simp [lswC]) rfl ?_ | refine ec_loadER rfl ti3 rfl (by first | decide | simp [lswC]) rfl ?_
    first | refine ec_move rfl rfl rfl ?_ | refine ec_moveO rfl rfl rfl ?_
    first | refine ec_move rfl rfl rfl ?_ | refine ec_moveO rfl rfl rfl ?_
    first | refine ec_indexL td62 ti77 rfl rfl rfl (by omega) (by assumption) rfl ?_ | refine ec_indexM td62 ti77 rfl rfl rfl rfl (by omega) (by omega) ?_
    refine ec_fieldAddr td77 rfl rfl rfl rfl rfl ?_
    first | refine ec_load rfl ti3 rfl rfl rfl rfl rfl ?_ | refine ec_loadE rfl ti3 rfl rfl rfl ?_ | refine ec_loadO rfl ti3 rfl rfl rfl rfl rfl ?_ | refine ec_loadR rfl ti3 rfl rfl (by decide) (by first | decide | simp [lswC]) rfl ?_ | refine ec_loadER rfl ti3 rfl (by first | decide | simp [lswC]) rfl ?_
    refine ec_build (r2 := [_, _, _, _]) ti80 rfl rfl rfl rfl rfl rfl rfl ?_
    refine ec_buildSlice (rows := [[_, _, _, _]]) td71 ti80 rfl rfl rfl rfl rfl rfl rfl rfl ?_
    refine ec_append td71 ti80 rfl rfl (.inl (by intro h; cases h)) (.inr mN71) rfl rfl rfl (by decide) (by decide) ⟨_, td71⟩ (by intro j y hj; cases j with | zero => injection hj with hj; subst hj; rfl | succ j => cases hj) (by simp [rowsJ]; omega) (by simp [rowsJ]; omega) ?_
    first | refine ec_asg rfl rfl rfl ?_ | refine ec_asgO rfl rfl rfl ?_
    refine ec_end (fun fr0 he => hK _ _ _ _ (by kernel_rfl) ?_ he)
    clear he fr0 hK K
    repeat (with_reducible (first | refine q_norm_then ?_ | refine q_norm_block ?_))
    refine AWc_reg1 (by repeat (with_reducible (first | exact qv_then | exact qv_loop | exact qv_join | exact qv_end | refine qv_block ?_))) (fun K hK => ?_)
    first | refine ec_move rfl rfl rfl ?_ | refine ec_moveO rfl rfl rfl ?_
    refine ec_add rfl rfl rfl (by omega) (by omega) ?_
    first | refine ec_asg rfl rfl rfl ?_ | refine ec_asgO rfl rfl rfl ?_
    refine ec_end (fun fr0 he => hK _ _ _ ?_ he)
    clear he fr0 hK K
    refine loop_onw (t' := i + 1) (by omega) (by omega) (leFr_cons rfl (.refl _) (leFr_cons rfl ?_ (leFr_cons rfl (.refl _) trivial))) rfl ⟨Nat.zero_le _, trivial, trivial⟩
    rw [List.take_add_one, hx]; simp only [Option.toList_some, rowsJ, List.map_append, List.map_cons, List.map_nil]; exact .refl _
  · skip
    have hge : l.length ≤ i := by have := of_decide_eq_false hc; simp [rowsJ] at this; omega
    obtain rfl : i = l.length := by omega
    apply AW_exit
    repeat (with_reducible (first | refine q_exit_then ?_ | refine q_exit_loop ?_ | refine q_exit_block ?_ | refine q_exit_join ?_ | refine q_exit_other (by decide) ?_))
    repeat (with_reducible (first | refine q_norm_then ?_ | refine q_norm_block ?_))
    repeat (with_reducible (first | refine q_norm_then ?_ | refine q_norm_block ?_))
    refine AWc_reg (fun K hK => ?_)
    first | refine ec_move rfl rfl rfl ?_ | refine ec_moveO rfl rfl rfl ?_
    first | refine ec_asg rfl rfl rfl ?_ | refine ec_asgO rfl rfl rfl ?_
    refine ec_end (fun fr0 he => hK _ _ _ ?_ he)
    clear he fr0 hK K
    apply AW_ret
    repeat (with_reducible (first | refine q_ret_then ?_ | refine q_ret_loop ?_ | refine q_ret_block ?_ | refine q_ret_join ?_))
    exact end_ret (.inl rfl) rfl (by rw [List.take_length]; exact .ro _ _) (by first | trivial | exact leMem_refl _) (Nat.zero_le _)

/-- Jumps -/
theorem ctr_jumps (l : List J4) (hl : l.length ≤ 1000) : Ctr Tryz.prog 36 [.list none (rowsJ l), .list none (rowsJ l)] [] (.ret (.bool true)) [] := by
  obtain ⟨fs, hfs, hfl⟩ := flds80
  refine ctr_of (rs := [.tmp 4]) (nt := 26) Tryz.func36 rfl rfl (enters_of Tryz.func36 rfl (by decide)) rfl (by decide) (by simp) (by simp) ?_
  refine AWc_reg (fun K hK => ?_)
  refine ec_asgC rfl rfl ?_
  refine ec_end (fun fr0 he => hK _ _ _ ?_ he)
  clear he fr0 hK K
  apply AW_seq
  refine AWc_reg (fun K hK => ?_)
  first | refine ec_move rfl rfl rfl ?_ | refine ec_moveO rfl rfl rfl ?_
  first | refine ec_lenL td71 rfl rfl ?_ | refine ec_lenM td71 rfl rfl ?_ | refine ec_lenN td71 rfl rfl ?_ | refine ec_lenS td71 rfl rfl ?_
  first | refine ec_move rfl rfl rfl ?_ | refine ec_moveO rfl rfl rfl ?_
  first | refine ec_lenL td71 rfl rfl ?_ | refine ec_lenM td71 rfl rfl ?_ | refine ec_lenN td71 rfl rfl ?_ | refine ec_lenS td71 rfl rfl ?_
  refine ec_bin rfl rfl rfl rfl ?_
  refine ec_eqv (v' := .bool false) (by simp) ?_
  refine ec_end (fun fr0 he => hK _ _ _ ?_ he)
  clear he fr0 hK K
  refine AWc_ifF rfl ?_
  apply AW_skip
  repeat (with_reducible (first | refine q_norm_then ?_ | refine q_norm_block ?_))
  apply AW_seq
  refine AWc_reg (fun K hK => ?_)
  refine ec_asgC rfl rfl ?_
  refine ec_end (fun fr0 he => hK _ _ _ ?_ he)
  clear he fr0 hK K
  apply AW_block
  refine AW_loopw (T := Nat) (fun i => i ≤ l.length) (I36 l) (fun i => l.length - i) 0 (Nat.zero_le _) (leFr_cons rfl (.refl _) (leFr_cons rfl (.refl _) (leFr_cons rfl (.refl _) trivial))) rfl ⟨Nat.zero_le _, trivial, trivial⟩ ?_
  intro i hi
  unfold I36
  apply AW_seq
  refine AWc_reg (fun K hK => ?_)
  first | refine ec_move rfl rfl rfl ?_ | refine ec_moveO rfl rfl rfl ?_
  first | refine ec_move rfl rfl rfl ?_ | refine ec_moveO rfl rfl rfl ?_
  first | refine ec_lenL td71 rfl rfl ?_ | refine ec_lenM td71 rfl rfl ?_ | refine ec_lenN td71 rfl rfl ?_ | refine ec_lenS td71 rfl rfl ?_
  refine ec_bin rfl rfl rfl rfl ?_
  refine ec_end (fun fr0 he => hK _ _ _ ?_ he)
  clear he fr0 hK K
  refine AWc_iff rfl (fun hc => ?_) (fun hc => ?_)
  · skip
    have hlt : i < l.length := by have := of_decide_eq_true hc; simp [rowsJ] at this; omega
    obtain ⟨x, hx⟩ : ∃ x, l[i]? = some x := ⟨_, List.getElem?_eq_getElem hlt⟩
    have hrow := rows_get hx
    apply AW_skip
    repeat (with_reducible (first | refine q_norm_then ?_ | refine q_norm_block ?_))
    apply AW_seq
    apply AW_block
    refine AWc_drw z_mixed  (fun K hK => ?_)
    first | refine ec_move rfl rfl rfl ?_ | refine ec_moveO rfl rfl rfl ?_
    first | refine ec_move rfl rfl rfl ?_ | refine ec_moveO rfl rfl rfl ?_
    first | refine ec_indexL td71 ti80 rfl rfl rfl (by omega) (by assumption) rfl ?_ | refine ec_indexM td71 ti80 rfl rfl rfl rfl (by omega) (by omega) ?_
    first | refine ec_load rfl ti80 rfl rfl rfl rfl rfl ?_ | refine ec_loadE rfl ti80 rfl rfl rfl ?_ | refine ec_loadO rfl ti80 rfl rfl rfl rfl rfl ?_ | refine ec_loadR rfl ti80 rfl rfl (by decide) (by first | decide | simp [lswC]) rfl ?_ | refine ec_loadER rfl ti80 rfl (by first | decide | simp [lswC]) rfl ?_
    first | refine ec_move rfl rfl rfl ?_ | refine ec_moveO rfl rfl rfl ?_
    first | refine ec_move rfl rfl rfl ?_ | refine ec_moveO rfl rfl rfl ?_
    first | refine ec_indexL td71 ti80 rfl rfl rfl (by omega) (by assumption) rfl ?_ | refine ec_indexM td71 ti80 rfl rfl rfl rfl (by omega) (by omega) ?_
    first | refine ec_load rfl ti80 rfl rfl rfl rfl rfl ?_ | refine ec_loadE rfl ti80 rfl rfl rfl ?_ | refine ec_loadO rfl ti80 rfl rfl rfl rfl rfl ?_ | refine ec_loadR rfl ti80 rfl rfl (by decide) (by first | decide | simp [lswC]) rfl ?_ | refine ec_loadER rfl ti80 rfl (by first | decide | simp [lswC]) rfl ?_
    refine ec_eqS (fs := fs) (b := true) (b' := false) rfl rfl hfs (by kernel_rfl) (hfl _ _ _ _) (by simp [eqCells, eqAV]) (.inr ⟨rfl, rfl⟩) rfl ?_
    refine ec_end (fun fr0 he => hK _ _ _ _ (by kernel_rfl) ?_ he)
    clear he fr0 hK K
    refine AWc_ifF rfl ?_
    apply AW_skip
    repeat (with_reducible (first | refine q_norm_then ?_ | refine q_norm_block ?_))
    refine AWc_reg1 (by repeat (with_reducible (first | exact qv_then | exact qv_loop | exact qv_join | exact qv_end | refine qv_block ?_))) (fun K hK => ?_)
    first | refine ec_move rfl rfl rfl ?_ | refine ec_moveO rfl rfl rfl ?_
    refine ec_add rfl rfl rfl (by omega) (by omega) ?_
    first | refine ec_asg rfl rfl rfl ?_ | refine ec_asgO rfl rfl rfl ?_
    refine ec_end (fun fr0 he => hK _ _ _ ?_ he)
    clear he fr0 hK K
    repeat (with_reducible (first | refine q_norm_then ?_ | refine q_norm_block ?_))
    refine loop_onw (t' := i + 1) (by omega) (by omega) (leFr_cons rfl (.refl _) (leFr_cons rfl (.refl _) (leFr_cons rfl (.refl _) trivial))) rfl ⟨Nat.zero_le _, trivial, trivial⟩
  · skip
    apply AW_exit
    repeat (with_reducible (first | refine q_exit_then ?_ | refine q_exit_loop ?_ | refine q_exit_block ?_ | refine q_exit_join ?_ | refine q_exit_other (by decide) ?_))
    repeat (with_reducible (first | refine q_norm_then ?_ | refine q_norm_block ?_))
    repeat (with_reducible (first | refine q_norm_then ?_ | refine q_norm_block ?_))
    refine AWc_reg (fun K hK => ?_)
    refine ec_asgC rfl rfl ?_
    refine ec_end (fun fr0 he => hK _ _ _ ?_ he)
    clear he fr0 hK K
    apply AW_ret
    repeat (with_reducible (first | refine q_ret_then ?_ | refine q_ret_loop ?_ | refine q_ret_block ?_ | refine q_ret_join ?_))
    exact end_ret (.inl rfl) rfl (.refl _) (by first | trivial | exact leMem_refl _) (Nat.zero_le _)

/-- the order of the reference -/
theorem ctr_refOrder (l : List J4) (hl : l.length ≤ 1000) : Ctr Tryz.prog 40 [.list none (rowsJ l)] [] (.ret (.list none (rowsJ (srt l)))) [] := by
  refine ctr_of (rs := [.tmp 2]) (nt := 52) Tryz.func40 rfl rfl (enters_of Tryz.func40 rfl (by decide)) rfl (by decide) (by simp) (by simp) ?_
  refine AWc_reg (fun K hK => ?_)
  refine ec_asgC rfl rfl ?_
  refine ec_end (fun fr0 he => hK _ _ _ ?_ he)
  clear he fr0 hK K
  refine AWc_reg (fun K hK => ?_)
  refine ec_asgC rfl rfl ?_
  refine ec_end (fun fr0 he => hK _ _ _ ?_ he)
  clear he fr0 hK K
  apply AW_seq
  refine AWc_reg (fun K hK => ?_)
  refine ec_asgC rfl rfl ?_
  refine ec_end (fun fr0 he => hK _ _ _ ?_ he)
  clear he fr0 hK K
  apply AW_block
  refine AW_loopw (T := Nat) (fun i => i ≤ l.length) (I40 l) (fun i => l.length - i) 0 (Nat.zero_le _) (leFr_cons rfl (.refl _) (leFr_cons rfl .nilslRo (leFr_cons rfl (.refl _) trivial))) rfl ⟨Nat.zero_le _, trivial, trivial⟩ ?_
  intro i hi
  unfold I40
  have hsl0 : (srt (l.take i)).length = i := by rw [srt, srtK_length]; simp; omega
  apply AW_seq
  refine AWc_reg (fun K hK => ?_)
  first | refine ec_move rfl rfl rfl ?_ | refine ec_moveO rfl rfl rfl ?_
  first | refine ec_move rfl rfl rfl ?_ | refine ec_moveO rfl rfl rfl ?_
  first | refine ec_lenL td71 rfl rfl ?_ | refine ec_lenM td71 rfl rfl ?_ | refine ec_lenN td71 rfl rfl ?_ | refine ec_lenS td71 rfl rfl ?_
  refine ec_bin rfl rfl rfl rfl ?_
  refine ec_end (fun fr0 he => hK _ _ _ ?_ he)
  clear he fr0 hK K
  refine AWc_iff rfl (fun hc => ?_) (fun hc => ?_)
  · skip
    have hlt : i < l.length := by have := of_decide_eq_true hc; simp [rowsJ] at this; omega
    obtain ⟨x, hx⟩ : ∃ x, l[i]? = some x := ⟨_, List.getElem?_eq_getElem hlt⟩
    have hrow := rows_get hx
    apply AW_skip
    repeat (with_reducible (first | refine q_norm_then ?_ | refine q_norm_block ?_))
    apply AW_seq
    apply AW_block
    refine AWc_reg (fun K hK => ?_)
    first | refine ec_move rfl rfl rfl ?_ | refine ec_moveO rfl rfl rfl ?_
    first | refine ec_lenL td71 rfl rfl ?_ | refine ec_lenM td71 rfl rfl ?_ | refine ec_lenN td71 rfl rfl ?_ | refine ec_lenS td71 rfl rfl ?_
    first | refine ec_asg rfl rfl rfl ?_ | refine ec_asgO rfl rfl rfl ?_
    refine ec_end (fun fr0 he => hK _ _ _ ?_ he)
    clear he fr0 hK K
    apply AW_seq
    apply AW_block
    refine AW_loopw (T := List J4 × List J4) (fun t => t.1 ++ t.2 = srt (l.take i) ∧ ∀ y, y ∈ t.2 → x.1 < y.1) (fun t => I40b l i t.1 t.2) (fun t => t.1.length) (srt (l.take i), []) ⟨by simp, (fun _ h => by cases h)⟩ (leFr_cons rfl (.refl _) (leFr_cons rfl (by simp only [List.append_nil]; exact .refl _) (leFr_cons rfl (.refl _) (leFr_cons rfl (wk_int (by simp [rows_length])) trivial)))) rfl ⟨Nat.zero_le _, trivial, trivial⟩ ?_
    rintro ⟨S1, S2⟩ ⟨hs, hgt⟩
    show AW _ _ _ _ _ (I40b l i S1 S2)
    simp only at hs hgt
    have hsl : S1.length + S2.length = i := by have := congrArg List.length hs; rw [hsl0] at this; simpa using this
    have hsrt : Srt Prod.fst (S1 ++ S2) := by rw [hs]; exact (srtK_ok _).1
    unfold I40b
    apply AW_seq
    refine AWc_drw z_mixed  (fun K hK => ?_)
    first | refine ec_move rfl rfl rfl ?_ | refine ec_moveO rfl rfl rfl ?_
    refine ec_bin rfl rfl rfl rfl ?_
    first | refine ec_move rfl rfl rfl ?_ | refine ec_moveO rfl rfl rfl ?_
    refine ec_grd rfl rfl (by simp [dstLt]) (fun hg => ?_) (fun hg => ?_)
    · skip
      have hpos : 0 < S1.length := by have := of_decide_eq_true hg; omega
      obtain ⟨T, y, hS1⟩ := last_of hpos
      have hT : S1.length = T.length + 1 := by rw [hS1]; simp
      have hrowy := rows_getI (l := S1 ++ S2) (a := (S1.length : Int) - 1) (x := y) (getm (P := T) (R := S2) (by rw [hS1]; simp) (by omega))
      first | refine ec_move rfl rfl rfl ?_ | refine ec_moveO rfl rfl rfl ?_
      refine ec_grdT rfl rfl ?_
      first | refine ec_move rfl rfl rfl ?_ | refine ec_moveO rfl rfl rfl ?_
      refine ec_grdT rfl rfl ?_
      refine ec_sub rfl rfl rfl (by omega) (by omega) ?_
      refine ec_grdT rfl rfl ?_
      first | refine ec_indexL td71 ti80 rfl rfl rfl (by omega) (by assumption) rfl ?_ | refine ec_indexM td71 ti80 rfl rfl rfl rfl (by omega) (by omega) ?_
      refine ec_grdT rfl rfl ?_
      refine ec_fieldAddr td80 rfl rfl rfl rfl rfl ?_
      refine ec_grdT rfl rfl ?_
      first | refine ec_load rfl ti3 rfl rfl rfl rfl rfl ?_ | refine ec_loadE rfl ti3 rfl rfl rfl ?_ | refine ec_loadO rfl ti3 rfl rfl rfl rfl rfl ?_ | refine ec_loadR rfl ti3 rfl rfl (by decide) (by first | decide | simp [lswC]) rfl ?_ | refine ec_loadER rfl ti3 rfl (by first | decide | simp [lswC]) rfl ?_
      refine ec_grdT rfl rfl ?_
      first | refine ec_move rfl rfl rfl ?_ | refine ec_moveO rfl rfl rfl ?_
      refine ec_grdT rfl rfl ?_
      first | refine ec_move rfl rfl rfl ?_ | refine ec_moveO rfl rfl rfl ?_
      refine ec_grdT rfl rfl ?_
      first | refine ec_indexL td71 ti80 rfl rfl rfl (by omega) (by assumption) rfl ?_ | refine ec_indexM td71 ti80 rfl rfl rfl rfl (by omega) (by omega) ?_
      refine ec_grdT rfl rfl ?_
      refine ec_fieldAddr td80 rfl rfl rfl rfl rfl ?_
      refine ec_grdT rfl rfl ?_
      first | refine ec_load rfl ti3 rfl rfl rfl rfl rfl ?_ | refine ec_loadE rfl ti3 rfl rfl rfl ?_ | refine ec_loadO rfl ti3 rfl rfl rfl rfl rfl ?_ | refine ec_loadR rfl ti3 rfl rfl (by decide) (by first | decide | simp [lswC]) rfl ?_ | refine ec_loadER rfl ti3 rfl (by first | decide | simp [lswC]) rfl ?_
      refine ec_grdT rfl rfl ?_
      refine ec_bin rfl rfl rfl rfl ?_
      first | refine ec_pickT rfl rfl rfl ?_ | refine ec_pickF rfl rfl rfl ?_
      refine ec_end (fun fr0 he => hK _ _ _ _ (by kernel_rfl) ?_ he)
      clear he fr0 hK K
      refine AWc_iff rfl (fun hc => ?_) (fun hc => ?_)
      · skip
        have hlt2 : x.1 < y.1 := by have := of_decide_eq_true hc; omega
        apply AW_skip
        repeat (with_reducible (first | refine q_norm_then ?_ | refine q_norm_block ?_))
        apply AW_block
        refine AWc_reg1 (by repeat (with_reducible (first | exact qv_then | exact qv_loop | exact qv_join | exact qv_end | refine qv_block ?_))) (fun K hK => ?_)
        first | refine ec_move rfl rfl rfl ?_ | refine ec_moveO rfl rfl rfl ?_
        refine ec_sub rfl rfl rfl (by omega) (by omega) ?_
        first | refine ec_asg rfl rfl rfl ?_ | refine ec_asgO rfl rfl rfl ?_
        refine ec_end (fun fr0 he => hK _ _ _ ?_ he)
        clear he fr0 hK K
        repeat (with_reducible (first | refine q_norm_then ?_ | refine q_norm_block ?_))
        refine loop_onw (t' := (T, y :: S2)) ⟨by rw [← hs, hS1]; simp, gt_cons hgt hlt2⟩ (by simp only [hS1]; simp) (leFr_cons rfl (.refl _) (leFr_cons rfl (by rw [hS1]; simp only [List.append_assoc, List.cons_append, List.nil_append]; exact .refl _) (leFr_cons rfl (.refl _) (leFr_cons rfl (wk_int (by simp only; omega)) trivial)))) rfl ⟨Nat.zero_le _, trivial, trivial⟩
      · skip
        have hge2 : y.1 ≤ x.1 := by have := of_decide_eq_false hc; omega
        have hfin : srt (l.take (i + 1)) = S1 ++ x :: S2 := ins_fin hx hs (by rw [hS1] at hsrt ⊢; exact le_last hsrt hge2) hgt
        apply AW_exit
        repeat (with_reducible (first | refine q_exit_then ?_ | refine q_exit_loop ?_ | refine q_exit_block ?_ | refine q_exit_join ?_ | refine q_exit_other (by decide) ?_))
        repeat (with_reducible (first | refine q_norm_then ?_ | refine q_norm_block ?_))
        repeat (with_reducible (first | refine q_norm_then ?_ | refine q_norm_block ?_))
        refine AWc_reg (fun K hK => ?_)
        refine ec_asgC rfl rfl ?_
        refine ec_end (fun fr0 he => hK _ _ _ ?_ he)
        clear he fr0 hK K
        refine AWc_reg (fun K hK => ?_)
        first | refine ec_move rfl rfl rfl ?_ | refine ec_moveO rfl rfl rfl ?_
        first | refine ec_move rfl rfl rfl ?_ | refine ec_moveO rfl rfl rfl ?_
        first | refine ec_move rfl rfl rfl ?_ | refine ec_moveO rfl rfl rfl ?_
        refine ec_sliceL (zs := rowsJ S1) td71 ti80 rfl rfl rfl rfl rfl (rows_len _) (by omega) (by omega) (by simp [rowsJ] <;> omega) (sl_hi _ _) ?_
        refine ec_append td71 ti80 rfl rfl (.inl (by intro h; cases h)) (.inr mN71) rfl rfl rfl (by decide) (by decide) ⟨_, td71⟩ (rows_len _) (by simp [rowsJ]; omega) (by simp [rowsJ]; omega) ?_
        first | refine ec_asg rfl rfl rfl ?_ | refine ec_asgO rfl rfl rfl ?_
        refine ec_end (fun fr0 he => hK _ _ _ ?_ he)
        clear he fr0 hK K
        refine AWc_reg (fun K hK => ?_)
        first | refine ec_move rfl rfl rfl ?_ | refine ec_moveO rfl rfl rfl ?_
        first | refine ec_move rfl rfl rfl ?_ | refine ec_moveO rfl rfl rfl ?_
        first | refine ec_move rfl rfl rfl ?_ | refine ec_moveO rfl rfl rfl ?_
        first | refine ec_indexL td71 ti80 rfl rfl rfl (by omega) (by assumption) rfl ?_ | refine ec_indexM td71 ti80 rfl rfl rfl rfl (by omega) (by omega) ?_
        first | refine ec_load rfl ti80 rfl rfl rfl rfl rfl ?_ | refine ec_loadE rfl ti80 rfl rfl rfl ?_ | refine ec_loadO rfl ti80 rfl rfl rfl rfl rfl ?_ | refine ec_loadR rfl ti80 rfl rfl (by decide) (by first | decide | simp [lswC]) rfl ?_ | refine ec_loadER rfl ti80 rfl (by first | decide | simp [lswC]) rfl ?_
        refine ec_buildSlice (rows := [[_, _, _, _]]) td71 ti80 rfl rfl rfl rfl rfl rfl rfl rfl ?_
        refine ec_append td71 ti80 rfl rfl (.inl (by intro h; cases h)) (.inr mN71) rfl rfl rfl (by decide) (by decide) ⟨_, td71⟩ (by intro j y hj; cases j with | zero => injection hj with hj; subst hj; rfl | succ j => cases hj) (by simp [rowsJ]; omega) (by simp [rowsJ]; omega) ?_
        first | refine ec_asg rfl rfl rfl ?_ | refine ec_asgO rfl rfl rfl ?_
        refine ec_end (fun fr0 he => hK _ _ _ ?_ he)
        clear he fr0 hK K
        refine AWc_reg (fun K hK => ?_)
        first | refine ec_move rfl rfl rfl ?_ | refine ec_moveO rfl rfl rfl ?_
        first | refine ec_move rfl rfl rfl ?_ | refine ec_moveO rfl rfl rfl ?_
        first | refine ec_move rfl rfl rfl ?_ | refine ec_moveO rfl rfl rfl ?_
        refine ec_sliceL (zs := rowsJ S2) td71 ti80 rfl rfl rfl rfl rfl (rows_len _) (by omega) (by simp [rowsJ] <;> omega) (by simp [rowsJ]) (sl_lo _ _) ?_
        refine ec_append td71 ti80 rfl rfl (.inl (by intro h; cases h)) (.inr mN71) rfl rfl rfl (by decide) (by decide) ⟨_, td71⟩ (rows_len _) (by simp [rowsJ]; omega) (by simp [rowsJ]; omega) ?_
        first | refine ec_asg rfl rfl rfl ?_ | refine ec_asgO rfl rfl rfl ?_
        refine ec_end (fun fr0 he => hK _ _ _ ?_ he)
        clear he fr0 hK K
        refine AWc_reg1 (by repeat (with_reducible (first | exact qv_then | exact qv_loop | exact qv_join | exact qv_end | refine qv_block ?_))) (fun K hK => ?_)
        first | refine ec_move rfl rfl rfl ?_ | refine ec_moveO rfl rfl rfl ?_
        first | refine ec_asg rfl rfl rfl ?_ | refine ec_asgO rfl rfl rfl ?_
        refine ec_end (fun fr0 he => hK _ _ _ ?_ he)
        clear he fr0 hK K
        repeat (with_reducible (first | refine q_norm_then ?_ | refine q_norm_block ?_))
        refine AWc_reg1 (by repeat (with_reducible (first | exact qv_then | exact qv_loop | exact qv_join | exact qv_end | refine qv_block ?_))) (fun K hK => ?_)
        first | refine ec_move rfl rfl rfl ?_ | refine ec_moveO rfl rfl rfl ?_
        refine ec_add rfl rfl rfl (by omega) (by omega) ?_
        first | refine ec_asg rfl rfl rfl ?_ | refine ec_asgO rfl rfl rfl ?_
        refine ec_end (fun fr0 he => hK _ _ _ ?_ he)
        clear he fr0 hK K
        repeat (with_reducible (first | refine q_norm_then ?_ | refine q_norm_block ?_))
        refine loop_onw (t' := i + 1) (by omega) (by omega) (leFr_cons rfl (.refl _) (leFr_cons rfl (wk_rows (by rw [hfin]; simp [rowsJ, encJ, AV.ro])) (leFr_cons rfl (.refl _) trivial))) rfl ⟨Nat.zero_le _, trivial, trivial⟩
    · skip
      have hzero : S1 = [] := by have := of_decide_eq_false hg; exact List.length_eq_zero_iff.1 (by omega)
      have hfin : srt (l.take (i + 1)) = S1 ++ x :: S2 := ins_fin hx hs (by rw [hzero]; intro _ h; cases h) hgt
      refine ec_grdF rfl rfl rfl (by simp [dstLt]) ?_
      refine ec_grdF rfl rfl rfl (by simp [dstLt]) ?_
      refine ec_grdF rfl rfl rfl (by simp [dstLt]) ?_
      refine ec_grdF rfl rfl rfl (by simp [dstLt]) ?_
      refine ec_grdF rfl rfl rfl (by simp [dstLt]) ?_
      refine ec_grdF rfl rfl rfl (by simp [dstLt]) ?_
      refine ec_grdF rfl rfl rfl (by simp [dstLt]) ?_
      refine ec_grdF rfl rfl rfl (by simp [dstLt]) ?_
      refine ec_grdF rfl rfl rfl (by simp [dstLt]) ?_
      refine ec_grdF rfl rfl rfl (by simp [dstLt]) ?_
      refine ec_grdF rfl rfl rfl (by simp [dstLt]) ?_
      first | refine ec_pickT rfl rfl rfl ?_ | refine ec_pickF rfl rfl rfl ?_
      refine ec_end (fun fr0 he => hK _ _ _ _ (by kernel_rfl) ?_ he)
      clear he fr0 hK K
      refine AWc_ifF rfl ?_
      apply AW_exit
      repeat (with_reducible (first | refine q_exit_then ?_ | refine q_exit_loop ?_ | refine q_exit_block ?_ | refine q_exit_join ?_ | refine q_exit_other (by decide) ?_))
      repeat (with_reducible (first | refine q_norm_then ?_ | refine q_norm_block ?_))
      repeat (with_reducible (first | refine q_norm_then ?_ | refine q_norm_block ?_))
      refine AWc_reg (fun K hK => ?_)
      refine ec_asgC rfl rfl ?_
      refine ec_end (fun fr0 he => hK _ _ _ ?_ he)
      clear he fr0 hK K
      refine AWc_reg (fun K hK => ?_)
      first | refine ec_move rfl rfl rfl ?_ | refine ec_moveO rfl rfl rfl ?_
      first | refine ec_move rfl rfl rfl ?_ | refine ec_moveO rfl rfl rfl ?_
      first | refine ec_move rfl rfl rfl ?_ | refine ec_moveO rfl rfl rfl ?_
      refine ec_sliceL (zs := rowsJ S1) td71 ti80 rfl rfl rfl rfl rfl (rows_len _) (by omega) (by omega) (by simp [rowsJ] <;> omega) (sl_hi _ _) ?_
      refine ec_append td71 ti80 rfl rfl (.inl (by intro h; cases h)) (.inr mN71) rfl rfl rfl (by decide) (by decide) ⟨_, td71⟩ (rows_len _) (by simp [rowsJ]; omega) (by simp [rowsJ]; omega) ?_
      first | refine ec_asg rfl rfl rfl ?_ | refine ec_asgO rfl rfl rfl ?_
      refine ec_end (fun fr0 he => hK _ _ _ ?_ he)
      clear he fr0 hK K
      refine AWc_reg (fun K hK => ?_)
      first | refine ec_move rfl rfl rfl ?_ | refine ec_moveO rfl rfl rfl ?_
      first | refine ec_move rfl rfl rfl ?_ | refine ec_moveO rfl rfl rfl ?_
      first | refine ec_move rfl rfl rfl ?_ | refine ec_moveO rfl rfl rfl ?_
      first | refine ec_indexL td71 ti80 rfl rfl rfl (by omega) (by assumption) rfl ?_ | refine ec_indexM td71 ti80 rfl rfl rfl rfl (by omega) (by omega) ?_
      first | refine ec_load rfl ti80 rfl rfl rfl rfl rfl ?_ | refine ec_loadE rfl ti80 rfl rfl rfl ?_ | refine ec_loadO rfl ti80 rfl rfl rfl rfl rfl ?_ | refine ec_loadR rfl ti80 rfl rfl (by decide) (by first | decide | simp [lswC]) rfl ?_ | refine ec_loadER rfl ti80 rfl (by first | decide | simp [lswC]) rfl ?_
      refine ec_buildSlice (rows := [[_, _, _, _]]) td71 ti80 rfl rfl rfl rfl rfl rfl rfl rfl ?_
      refine ec_append td71 ti80 rfl rfl (.inl (by intro h; cases h)) (.inr mN71) rfl rfl rfl (by decide) (by decide) ⟨_, td71⟩ (by intro j y hj; cases j with | zero => injection hj with hj; subst hj; rfl | succ j => cases hj) (by simp [rowsJ]; omega) (by simp [rowsJ]; omega) ?_
      first | refine ec_asg rfl rfl rfl ?_ | refine ec_asgO rfl rfl rfl ?_
      refine ec_end (fun fr0 he => hK _ _ _ ?_ he)
      clear he fr0 hK K
      refine AWc_reg (fun K hK => ?_)
      first | refine ec_move rfl rfl rfl ?_ | refine ec_moveO rfl rfl rfl ?_
      first | refine ec_move rfl rfl rfl ?_ | refine ec_moveO rfl rfl rfl ?_
      first | refine ec_move rfl rfl rfl ?_ | refine ec_moveO rfl rfl rfl ?_
      refine ec_sliceL (zs := rowsJ S2) td71 ti80 rfl rfl rfl rfl rfl (rows_len _) (by omega) (by simp [rowsJ] <;> omega) (by simp [rowsJ]) (sl_lo _ _) ?_
      refine ec_append td71 ti80 rfl rfl (.inl (by intro h; cases h)) (.inr mN71) rfl rfl rfl (by decide) (by decide) ⟨_, td71⟩ (rows_len _) (by simp [rowsJ]; omega) (by simp [rowsJ]; omega) ?_
      first | refine ec_asg rfl rfl rfl ?_ | refine ec_asgO rfl rfl rfl ?_
      refine ec_end (fun fr0 he => hK _ _ _ ?_ he)
      clear he fr0 hK K
      refine AWc_reg1 (by repeat (with_reducible (first | exact qv_then | exact qv_loop | exact qv_join | exact qv_end | refine qv_block ?_))) (fun K hK => ?_)
      first | refine ec_move rfl rfl rfl ?_ | refine ec_moveO rfl rfl rfl ?_
      first | refine ec_asg rfl rfl rfl ?_ | refine ec_asgO rfl rfl rfl ?_
      refine ec_end (fun fr0 he => hK _ _ _ ?_ he)
      clear he fr0 hK K
      repeat (with_reducible (first | refine q_norm_then ?_ | refine q_norm_block ?_))
      refine AWc_reg1 (by repeat (with_reducible (first | exact qv_then | exact qv_loop | exact qv_join | exact qv_end | refine qv_block ?_))) (fun K hK => ?_)
      first | refine ec_move rfl rfl rfl ?_ | refine ec_moveO rfl rfl rfl ?_
      refine ec_add rfl rfl rfl (by omega) (by omega) ?_
      first | refine ec_asg rfl rfl rfl ?_ | refine ec_asgO rfl rfl rfl ?_
      refine ec_end (fun fr0 he => hK _ _ _ ?_ he)
      clear he fr0 hK K
      repeat (with_reducible (first | refine q_norm_then ?_ | refine q_norm_block ?_))
      refine loop_onw (t' := i + 1) (by omega) (by omega) (leFr_cons rfl (.refl _) (leFr_cons rfl (wk_rows (by rw [hfin]; simp [rowsJ, encJ, AV.ro])) (leFr_cons rfl (.refl _) trivial))) rfl ⟨Nat.zero_le _, trivial, trivial⟩
  · skip
    have hge : l.length ≤ i := by have := of_decide_eq_false hc; simp [rowsJ] at this; omega
    obtain rfl : i = l.length := by omega
    apply AW_exit
    repeat (with_reducible (first | refine q_exit_then ?_ | refine q_exit_loop ?_ | refine q_exit_block ?_ | refine q_exit_join ?_ | refine q_exit_other (by decide) ?_))
    repeat (with_reducible (first | refine q_norm_then ?_ | refine q_norm_block ?_))
    repeat (with_reducible (first | refine q_norm_then ?_ | refine q_norm_block ?_))
    refine AWc_reg (fun K hK => ?_)
    first | refine ec_move rfl rfl rfl ?_ | refine ec_moveO rfl rfl rfl ?_
    first | refine ec_asg rfl rfl rfl ?_ | refine ec_asgO rfl rfl rfl ?_
    refine ec_end (fun fr0 he => hK _ _ _ ?_ he)
    clear he fr0 hK K
    apply AW_ret
    repeat (with_reducible (first | refine q_ret_then ?_ | refine q_ret_loop ?_ | refine q_ret_block ?_ | refine q_ret_join ?_))
    exact end_ret (.inl rfl) rfl (by rw [List.take_length]; exact .refl _) (by first | trivial | exact leMem_refl _) (Nat.zero_le _)

end Go.Aw
end
