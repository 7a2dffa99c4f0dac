/-
  A part of the proof of SideOrderCardSaid (see the last text, Om): no statement of its own, no condition.
-/
import Derived.Test.YtchgjamonjfjhaaGreatDoorOh
import Derived.Test.YtchgjamonjfjhaaGreatDoorCards
import Derived.Test.YtchgjamonjfjhaaGreatDoorTie
import Derived.WalkKit
import Derived.OpenShut
import Derived.Deep.DeepHandedRow
import Derived.Lib.LaidTab
set_option linter.unusedSimpArgs false
set_option linter.unusedVariables false
section
set_option linter.unusedSimpArgs false
set_option linter.unusedVariables false
set_option maxRecDepth 100000
set_option maxHeartbeats 1000000
namespace Go.Aw
open Go.Proofs Go.So Go.Proofs.YtchgjamonjfjhaaGreatDoor Go.ChangeShapes Go.WideShapes Go.ChangeAt Go.RowKit Go.Deep
section
variable {H : Type} {enc : TypeId × Value → H} {P : Program} {w : World} {base : Nat} {spare : Nat → Bool} {held : Bool}
/-- A struct of integers of one kind, one behind the other. -/
def intsT (P : Program) (t : TypeId) (n : Nat) : Bool := match P.underlying t with
  | some (.struct fs) => fs.size == n && P.cellsOf t == n && (List.range n).all fun j => match fs[j]? with | some f => f.offset == j && P.cellsOf f.type == 1 && (match P.underlying f.type with | some (.int .i64) => true | _ => false) | none => false
  | _ => false
theorem trod_ints {t : TypeId} {n fuel : Nat} {cs : List Value} {x : DataW H × List MemPlace} (ht : intsT P t n = true) (h : DataW.trod enc P w base spare held fuel t cs = some x) :
    cs.length = n ∧ ∀ j, j < n → ∃ z, cs[j]? = some (.int .i64 z) := by
  unfold intsT at ht
  split at ht
  · rename_i fs hfs
    simp only [Bool.and_eq_true, beq_iff_eq, List.all_eq_true, List.mem_range] at ht
    obtain ⟨⟨h1, h2⟩, h3⟩ := ht
    obtain ⟨xs, m, rfl, rfl, hl, hxl, hf⟩ := DataW.trod_struct hfs h
    refine ⟨by omega, fun j hj => ?_⟩
    have h4 := h3 j hj
    split at h4
    · rename_i f hfj
      simp only [Bool.and_eq_true, beq_iff_eq] at h4
      obtain ⟨⟨h5, h6⟩, h7⟩ := h4
      have h8 := hf j f hfj
      have hjx : j < xs.length := by omega
      rw [List.getElem?_eq_getElem hjx, h5, h6] at h8
      split at h7
      · rename_i hk
        obtain ⟨z, h9, _⟩ := DataW.trod_int hk h8
        refine ⟨z, ?_⟩
        have := congrArg (fun l => l[0]?) h9
        simpa [List.getElem?_drop, List.getElem?_take] using this
      · cases h7
    · cases h4
  · cases ht
theorem range_rows (V : Nat → J4) (n : Nat) (i : Nat) (hi : i < n) : (rowsJ ((List.range n).map V))[i]? = some (encJ (V i)) := by
  simp [rowsJ, hi]
/-- A slice of jumps, read as data, is a list of them. -/
theorem rep_jumps {t e : TypeId} {v : Value} {d : DataW H} {ps : List MemPlace} (ht : P.underlying t = some (.slice e)) (he : intsT P e 4 = true) (hce : P.cellsOf e = 4)
    (h : DataW.Trod enc P w base spare held t v d ps) (hv : ∃ a len cap, v = .slice a len cap) (R : Ext0) (hR : ∀ b, R b = none) : ∃ l : List J4, l.length ≤ 9223372036854775807 ∧ PRep w R (.list none (rowsJ l)) v := by
  obtain ⟨a0, len0, cap0, rfl⟩ := hv
  obtain ⟨fuel, hf⟩ := h
  have hst : ∀ b off, stable R b off := fun b off n hn => by rw [hR] at hn; cases hn
  rcases open_slice ht hf with ⟨h0, _⟩ | ⟨a, len, cap, m, n, D, Pl, h0, hb, hl, hm, hmm, _, hx⟩
  · simp [Value.cells] at h0
    obtain ⟨rfl, rfl, rfl⟩ := h0
    exact ⟨[], by simp, .empty _ _⟩
  · simp [Value.cells] at h0
    obtain ⟨rfl, rfl, rfl⟩ := h0
    have hmx : maxLen = 9223372036854775807 := rfl
    by_cases h0 : len0 = 0
    · subst h0; exact ⟨[], by simp, .empty _ _⟩
    have hlm : len0 ≤ m := by rw [hmm]; split <;> omega
    have each : ∀ i, i < len0 → ∃ q : J4, ∀ j, j < 4 → ∃ z, (encJ q)[j]? = some (.int .i64 z) ∧ w.cell? (a.add (i * 4 + j)) = some (.int .i64 z) := by
      intro i hi
      obtain ⟨cs', h1, h2⟩ := hx i (by omega)
      rw [hce] at h1
      obtain ⟨_, hlen, hcell⟩ := World.cells?_some h1
      obtain ⟨_, h3⟩ := trod_ints he h2
      obtain ⟨z0, k0⟩ := h3 0 (by omega)
      obtain ⟨z1, k1⟩ := h3 1 (by omega)
      obtain ⟨z2, k2⟩ := h3 2 (by omega)
      obtain ⟨z3, k3⟩ := h3 3 (by omega)
      have e0 := hcell 0 (by omega)
      have e1 := hcell 1 (by omega)
      have e2 := hcell 2 (by omega)
      have e3 := hcell 3 (by omega)
      rw [add_add] at e0 e1 e2 e3
      refine ⟨⟨z0, z1, z2, z3⟩, fun j hj => ?_⟩
      match j, hj with
      | 0, _ => exact ⟨z0, rfl, e0.trans k0⟩
      | 1, _ => exact ⟨z1, rfl, e1.trans k1⟩
      | 2, _ => exact ⟨z2, rfl, e2.trans k2⟩
      | 3, _ => exact ⟨z3, rfl, e3.trans k3⟩
      | j + 4, hj => omega
    obtain ⟨q, hq⟩ := choose_lt each
    obtain ⟨_, _, c0⟩ := hq 0 (by omega) 0 (by omega)
    have hspot : a.spot = none := by simpa [Addr.add] using World.cell?_spot c0
    obtain ⟨b, off, spot⟩ := a
    simp only at hspot
    subst hspot
    have hadd : ∀ k, (⟨b, off, none⟩ : Addr).add k = ⟨b, off + k, none⟩ := fun k => by
      unfold Addr.add
      split
      · rename_i hk; subst hk; rfl
      · rfl
    refine ⟨(List.range len0).map q, by simp; omega, ?_⟩
    have hlen : (rowsJ ((List.range len0).map q)).length = len0 := by simp [rowsJ]
    have key := PRep.list (w := w) (R := R) (rowsJ ((List.range len0).map q)) 4 b off cap0 (fun i j => match (encJ (q i))[j]? with | some (.int k z) => .int k z | _ => .tuple #[]) (by rw [hlen]; exact hl) (rows_len _)
      (fun i j hi hj => by
        rw [hlen] at hi
        obtain ⟨z, h1, h2⟩ := hq i hi j hj
        rw [hadd, ← Nat.add_assoc] at h2
        rw [h1]
        exact ⟨h2, hst _ _⟩)
      (fun i x hix j v hjv => by
        have hi : i < len0 := by rw [← hlen]; exact (List.getElem?_eq_some_iff.1 hix).1
        rw [range_rows q len0 i hi] at hix
        injection hix with hix
        subst hix
        have hj : j < 4 := (List.getElem?_eq_some_iff.1 hjv).1
        obtain ⟨z, h1, h2⟩ := hq i hi j hj
        rw [h1] at hjv
        injection hjv with hjv
        subst hjv
        simp only [h1]
        exact .int _ _)
    rw [hlen] at key
    exact key
/-- Behind a call that turns nothing of what was there. -/
theorem post_below {f : Func} {s : ChangeSpec} {apart fresh handsOn again : Bool} {W W' : World} {args : Array Value} {v : Value} {ds gs : List (DataW H)} {before pa pv : List MemPlace}
    (hW : DataW.Whole enc P f.params.toList s.vars apart W args.toList ds gs before)
    (hres : ∀ (b : Nat) (sp : Nat → Bool) (hd : Bool), DataW.TrodAll enc P W' b sp hd f.resultTypes.toList (v.resultList f.resultTypes.size) (s.fn H (ds ++ gs)).results [])
    (hargs : ∀ sp : Nat → Bool, (∀ p ∈ before, sp p.block = true) → DataW.TrodAll enc P W' 0 sp true f.params.toList args.toList (s.fn H (ds ++ gs)).args pa)
    (hvars : ∀ sp : Nat → Bool, (∀ p ∈ before, sp p.block = true) → DataW.TrodVars enc P W' sp s.vars (s.fn H (ds ++ gs)).vars pv)
    (hps : before = pa ++ pv) (hb : Below W.heap.size W W')
    (hok : ∀ (j : Nat) (t : TypeId) (r : Value), f.resultTypes[j]? = some t → (v.resultList f.resultTypes.size)[j]? = some r → Value.okWide P W' .any 0 t r) :
    s.post enc P f apart fresh handsOn again W args v W' := by
  have hlt : ∀ p ∈ before, p.block < W.heap.size := fun p hp => hW.lt p hp
  have hold : ∀ p ∈ before, (fun b => decide (b < W.heap.size)) p.block = true := fun p hp => by simpa using hlt p hp
  refine ⟨ds, gs, before, [], pa, pv, hW, hres _ _ _, hargs _ hold, hvars _ hold, hb.frame _, fun _ => ?_⟩
  obtain ⟨_, _, _, _, _, hz, hn⟩ := hW
  refine ⟨hok, _, _, ([] ++ pa) ++ pv, ⟨[] ++ pa, pv, trodAll_append (hargs _ (fun _ _ => rfl)) (hres _ _ _), hvars _ (fun _ _ => rfl), rfl, ?_, ?_⟩, ?_⟩
  · intro b off hp
    have hp' : MemPlace.cell b off ∈ before := by rw [hps]; simpa using hp
    rw [hb.frozen (hlt _ hp')]
    exact hz b off hp'
  · intro ha
    have := hn ha
    rw [hps] at this
    simpa using this
  · intro p hp _
    rw [hps]
    simpa using hp
end
theorem own : ownKnob Tryz.prog.godebug = none := by kernel_rfl
theorem laidOut : laidOutB Tryz.prog = true := by kernel_rfl
theorem u71 : Tryz.prog.underlying 71 = some (.slice 80) := by kernel_rfl
theorem u4 : Tryz.prog.underlying 4 = some .bool := by kernel_rfl
theorem i80 : intsT Tryz.prog 80 4 = true := by kernel_rfl
theorem c80 : Tryz.prog.cellsOf 80 = 4 := by kernel_rfl
/-- A contract without objects, met by a world in which all that was there is stable. -/
theorem calls_of_ctr {n : FuncId} {args : List AV} {v : AV} (hen : Enters Tryz.prog n) (h : Ctr Tryz.prog n args [] (.ret v) []) {W : World} {vs : Array Value} (hl : args.length = vs.size)
    (hargs : ∀ (i : Nat) v x, args[i]? = some v → vs[i]? = some x → PRep W (fun _ => none) v x) (hg : GOK Tryz.prog W (fun _ => none)) :
    Calls Tryz.prog n vs W fun e W' => (∃ x R', e = .returned x ∧ ∃ ι' ω', Rep W' R' ι' ω' [2] v x) ∧ Below W.heap.size W W' := by
  have hmr : MR W (fun _ => none) (fun _ => none) (fun _ => none) (vw []) := ⟨fun o obj h => by simp [vw] at h, fun o obj h => by simp [vw] at h, fun o o' b _ _ h => by (cases h), fun k p h => by (cases h), fun o b h => by (cases h), fun k p h => by (cases h)⟩
  rcases h.run W (fun _ => none) (fun _ => none) (fun _ => none) vs hl (fun i v x hv hx => .pure _ _ _ (hargs i v x hv hx)) hmr (fun o b h => by cases h) hg with ⟨h1, h2⟩ | ⟨x, w', h1, _⟩
  · refine h2.mono ?_
    rintro e w' ⟨R', ι', ω', hp, x, rfl, hx⟩
    refine ⟨⟨x, R', rfl, ι', ω', hx⟩, hp.os, hp.tape, hp.output, hp.ext.size, fun k hk => (hp.kept k hk (fun o _ => by intro e; cases e) rfl).1⟩
  · rw [hen] at h1; cases h1
theorem enters6 : Enters Tryz.prog 6 := enters_of Tryz.func6 rfl (by decide)
theorem contract6 (H : Type) (enc : TypeId × Value → H) (W : World) (base : Nat) (args : Array Value) (ds gs : List (DataW H)) (before : List MemPlace)
    (hval : ∀ (j : Nat) t v, Tryz.f6.params[j]? = some t → args[j]? = some v → Value.okWide Tryz.prog W .any base t v)
    (hW : DataW.Whole enc Tryz.prog Tryz.f6.params.toList Rows.sideOrderSpec.vars false W args.toList ds gs before) (hL : laidMetH Tryz.prog Rows.sideOrderRow.laid W) :
    Calls Tryz.prog 6 args W fun e W' => ∃ v, e = .returned v ∧ Rows.sideOrderSpec.post enc Tryz.prog Tryz.f6 false true false false W args v W' := by
  have hW' := hW
  obtain ⟨p, q, hA0, hV, rfl, hfz, hnd⟩ := hW
  have hA : DataW.TrodAll enc Tryz.prog W 0 (fun _ => true) true Tryz.f6.params.toList args.toList ds p := hA0
  rw [Tryz.params6] at hA hval
  obtain ⟨v0, d0, rfl, rfl, h0⟩ := trodAll_one hA
  obtain ⟨rfl, rfl⟩ := trodVars_none hV
  obtain ⟨l, hl, hrep⟩ := rep_jumps u71 i80 c80 h0 (okWide_slice u71 (hval 0 71 v0 rfl rfl)) (fun _ => none) (fun _ => rfl)
  simp only [List.append_nil] at hW'
  have hlt : ∀ x ∈ p, x.block < W.heap.size := fun x hx => hW'.lt x hx
  refine (calls_of_ctr enters6 (ctr_SideOrder l hl) (vs := #[v0]) rfl (fun i v x hv hx => ?_) (gok_of_laid hL)).mono ?_
  · match i with
    | 0 => injection hv with hv; injection hx with hx; subst hv; subst hx; exact hrep
    | i + 1 => simp at hv
  rintro e W' ⟨⟨x, R', rfl, ι', ω', hx⟩, hb⟩
  obtain rfl := hx.bool_inv
  exact ⟨_, rfl, post_below (pa := p) (pv := []) hW' (fun _ _ _ => trodAll_cons_mk (shut_bool u4 _) trodAll_mk0)
    (fun sp hs => trodAll_mk1 (WideElems.Trod_stays laidOut (by kernel_rfl) (of_decide_eq_true (by kernel_rfl)) h0 (fun y hy => hb.same (hlt y hy)) (fun y hy => hs y hy))) (fun _ _ => rfl) (by simp) hb (ok_one (by kernel_rfl) rfl (okWide_bool_mk u4 _))⟩
end Go.Aw
end
