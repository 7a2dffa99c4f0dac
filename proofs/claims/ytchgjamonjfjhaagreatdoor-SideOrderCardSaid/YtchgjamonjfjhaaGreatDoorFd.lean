/-
  A part of the proof of SideOrderCardSaid (see the last text, Om): no statement of its own, no condition.
-/
import Derived.Test.YtchgjamonjfjhaaGreatDoorFc
set_option linter.unusedSimpArgs false
set_option linter.unusedVariables false
section
set_option linter.unusedSimpArgs false
namespace Go.Aw
open Go.RowKit

theorem Rep.ro_none {w : World} {R : Ext0} {ι : Nat → Option Nat} {ω : Nat → Option (List Nat)} {p : List Nat} {v : AV} {x : Value} (h : Rep w R ι ω p v x) : ∀ q, Rep w R ι (fun _ => none) q v.ro x := fun q => h.ro _ q

/-- The values that are handed over, as the callee sees them. -/
theorem callee_args {w : World} {R : Ext0} {ι : Nat → Option Nat} {ω : Nat → Option (List Nat)} (fp : List Nat) (hn : fp.Nodup) {l : List AV} {vs : List Value}
    (h : ∀ (i : Nat) v x, l[i]? = some v → vs[i]? = some x → ∃ ω p, Rep w R ι ω p v x) (hp : within fp (AV.ptrsL (AV.roL l))) :
    ∀ (i : Nat) v x, (AV.renL (toCallee fp) (AV.roL l))[i]? = some v → vs[i]? = some x → Rep w R (calleeIota fp ι) (calleeOmega fp ω) [3, i] v x := by
  intro i v x hv hx
  obtain ⟨u, hu, rfl⟩ := renL_get hv
  obtain ⟨u', hu', rfl⟩ := roL_get hu
  obtain ⟨ω1, p1, hr⟩ := h i u' x hu' hx
  refine (hr.ro_none []).ren _ _ (fun o ho b hb => ?_) (fun k s hs => by simp at hs)
  have hmem := within_mem hp o (ptrsL_mem hu ho)
  obtain ⟨j, hj, hje⟩ := List.getElem_of_mem hmem
  have hj2 : fp[j]? = some o := by rw [List.getElem?_eq_getElem hj, hje]
  simp only [calleeIota, toCallee, idxOf_get hn hj2, Option.getD_some, hj2, Option.bind_some]
  exact hb

/-- A call's operands, resolved: the function, and all values. -/
theorem call_run {P : Program} [GT P] {o : Oper} {f : Operand} {args : Array Operand} {tys : Array TypeId} {a : Act} {w : World} {n : FuncId} {first cap : Array Value} (hop : o.op = .call { callee := .value f, args := args, argTypes := tys })
    (hf : a.eval f = .func (.func n) first cap) {r : Result Next} (he : (callFunc n (first ++ args.map a.eval ++ cap)).run P w = r) : (execOp a.eval o).run P w = r := by
  rw [Array.append_assoc] at he
  simp [execOp, hop, resolve, Deferred.ofValue, hf, invoke, he]

theorem call_vals {Γ : Gam} {S : Vw} {a : Act} {w : World} {R : Ext0} {ι : Nat → Option Nat} {ω : Nat → Option (List Nat)} (hrel : Rel Γ S.g S.m a w R ι ω) {f : Operand} {n : FuncId} {first cap avs : List AV} {args : Array Operand}
    (hf : Opd f (.func n first cap)) (hargs : Opds args.toList avs) (r1 : ∀ r, r ∈ rdOf f (.func n first cap) → S.has r) (r2 : ∀ r, r ∈ rdsOf args.toList avs → S.has r) :
    ∃ f' c', a.eval f = .func (.func n) f' c' ∧ (first ++ avs ++ cap).length = (f' ++ args.map a.eval ++ c').size ∧
      ∀ (i : Nat) v x, (first ++ avs ++ cap)[i]? = some v → (f' ++ args.map a.eval ++ c').toList[i]? = some x → ∃ ω p, Rep w R ι ω p v x := by
  have h1 := hf.rep hrel r1
  obtain ⟨l1, l2⟩ := Opds.spec hrel hargs r2
  generalize hX : a.eval f = X at h1
  cases h1 with
  | pure p v x h => cases h
  | func p _ _ _ first' cap' e1 e2 g1 g2 =>
    refine ⟨first', cap', rfl, by simp at l1 ⊢; omega, fun i v x hv hx => ?_⟩
    simp only [Array.toList_append, Array.toList_map, List.append_assoc] at hx
    rw [List.append_assoc] at hv
    by_cases i1 : i < first.length
    · rw [List.getElem?_append_left i1] at hv
      rw [List.getElem?_append_left (by simp; omega)] at hx
      exact ⟨_, _, g1 i v x hv (by simpa using hx)⟩
    · rw [List.getElem?_append_right (by omega)] at hv
      rw [List.getElem?_append_right (by simp; omega)] at hx
      simp only [Array.length_toList, ← e1] at hx
      by_cases i2 : i - first.length < avs.length
      · rw [List.getElem?_append_left i2] at hv
        rw [List.getElem?_append_left (by simp at l1 ⊢; omega)] at hx
        obtain ⟨y, hy, hyr⟩ := l2 _ v hv
        rw [List.getElem?_map, hy] at hx
        simp only [Option.map_some] at hx; injection hx with hx; subst hx
        exact ⟨_, _, hyr⟩
      · rw [List.getElem?_append_right (by omega)] at hv
        rw [List.getElem?_append_right (by simp at l1 ⊢; omega)] at hx
        have : (List.map a.eval args.toList).length = avs.length := by simpa using l1
        rw [this] at hx
        exact ⟨_, _, g2 _ v x hv (by simpa using hx)⟩

theorem does_call {P : Program} [GT P] {nt : Nat} {o : Oper} {f : Operand} {args : Array Operand} {tys : Array TypeId} {n : FuncId} {first cap avs : List AV} {fp : List Nat} {objs mem' : List (List AV)} {v : AV} {N : Nat}
    (hop : o.op = .call { callee := .value f, args := args, argTypes := tys }) (hf : Opd f (.func n first cap)) (hargs : Opds args.toList avs) (hn : fp.Nodup)
    (hap : within fp (AV.ptrsL (AV.roL (first ++ avs ++ cap)))) (hob : within fp (ptrsM objs)) (hlen : objs.length = fp.length)
    (hc : Ctr P n (AV.renL (toCallee fp) (AV.roL (first ++ avs ++ cap))) (renM (toCallee fp) objs) (.ret v) mem')
    (hv : ∀ q, q ∈ v.ptrs → q < mem'.length) (hm' : ∀ q, q ∈ ptrsM mem' → q < mem'.length) (hd : ∀ d, o.dst = some d → d < nt) :
    Does P nt o (rdOf f (.func n first cap) ++ rdsOf args.toList avs ++ (rdsObjs fp objs ++ newRds N (mem'.length - fp.length)))
      (wrsObjs N fp (renM (toCaller fp N) mem') ++ dstW o.dst (v.ren (toCaller fp N))) := by
  intro Γ S a w next Q hnt hr hrel hnx
  have hntn := hnt.1
  obtain ⟨R, ι, ω, hrel, hdom⟩ := hrel
  obtain ⟨r12, r34⟩ := mem_app hr
  obtain ⟨r1, r2⟩ := mem_app r12
  obtain ⟨r3, r4⟩ := mem_app r34
  obtain ⟨f', c', hfe, hsz, hvals⟩ := call_vals hrel hf hargs r1 r2
  have hobjs := rdsObjs_has r3
  have hnew := newRds_has r4
  have hml : (renM (toCallee fp) objs).length = fp.length := by rw [renM_eq, List.length_map, hlen]
  have hfpobj : ∀ (i o : Nat), fp[i]? = some o → ∃ obj, objs[i]? = some obj ∧ S.m o = some obj := by
    intro i o' hi
    have hlt := (List.getElem?_eq_some_iff.1 hi).1
    have hoi : objs[i]? = some (objs[i]'(by omega)) := List.getElem?_eq_getElem (by omega)
    exact ⟨_, hoi, hobjs i o' _ hi hoi⟩
  have hmA : ∀ (i o : Nat) obj, fp[i]? = some o → S.m o = some obj → (renM (toCallee fp) objs)[i]? = some (AV.renL (toCallee fp) obj) := by
    intro i o' obj hi ho
    obtain ⟨ob, h1, h2⟩ := hfpobj i o' hi
    rw [ho] at h2; injection h2 with h2; subst h2
    rw [renM_eq, List.getElem?_map, h1]; rfl
  have hmB : ∀ (i o : Nat), fp[i]? = some o → ∃ obj, S.m o = some obj ∧ ∀ q, q ∈ AV.ptrsL obj → q ∈ fp := by
    intro i o' hi
    obtain ⟨ob, h1, h2⟩ := hfpobj i o' hi
    exact ⟨ob, h2, fun q hq => within_mem hob q (ptrsM_mem h1 hq)⟩
  have hMR : MR w R (calleeIota fp ι) (calleeOmega fp ω) (vw (renM (toCallee fp) objs)) := hrel.mr.callee fp hn _ hml hmA hmB
  have hrun := hc.run w R (calleeIota fp ι) (calleeOmega fp ω) (f' ++ args.map a.eval ++ c') (by rw [renL_length, roL_length]; exact hsz)
    (fun i u x hu hx => callee_args fp hn hvals hap i u x hu (by rw [Array.getElem?_toList]; exact hx)) hMR
    (fun i b hi => by
      simp only [calleeIota] at hi
      cases h1 : fp[i]? with
      | none => rw [h1] at hi; cases hi
      | some o' => rw [hml]; exact (List.getElem?_eq_some_iff.1 h1).1) (hnt.2.ext hrel.env.ext)
  have hle : fp.length ≤ mem'.length := by have := hc.len; omega
  have hdisj : ∀ o', o' ∈ fp → ¬ (N ≤ o' ∧ fp.length + (o' - N) < (renM (toCaller fp N) mem').length) := by
    intro o' ho' hh
    rw [renM_eq, List.length_map] at hh
    obtain ⟨i, hi, hie⟩ := List.getElem_of_mem ho'
    obtain ⟨ob, h1, h2⟩ := hfpobj i o' (by rw [List.getElem?_eq_getElem hi, hie])
    rw [hnew o' hh.1 (by omega)] at h2; cases h2
  have hgo : ∀ (R' : Ext0) (ι' : Nat → Option Nat) (ω' : Nat → Option (List Nat)) (w' : World) (x : Value), Post w R (calleeIota fp ι) (calleeOmega fp ω) (vw (renM (toCallee fp) objs)) w' R' ι' ω' mem' → Rep w' R' ι' ω' [2] v x → next (a.put o.dst x) w' := ?go
  · unfold Oper.wp
    rcases hrun with ⟨hent, hrun⟩ | ⟨x, w', hent, R', ι', ω', hpost, x', hx', hxr⟩
    · rw [call_run hop hfe hent]
      simp only [Oper.upon]
      refine hrun.mono ?_
      rintro e w' ⟨R', ι', ω', hpost, x, rfl, hxr⟩
      exact hgo R' ι' ω' w' x hpost hxr
    · rw [call_run hop hfe hent]
      injection hx' with hx'; subst hx'
      exact hgo R' ι' ω' w' x hpost hxr
  intro R' ι' ω' w' x hpost hxr
  refine hnx _ _ ?_
  have hcalled := hrel.called fp hn N (fun o' ho' => by
      obtain ⟨i, hi, hie⟩ := List.getElem_of_mem ho'
      obtain ⟨ob, h1, h2⟩ := hfpobj i o' (by rw [List.getElem?_eq_getElem hi, hie])
      obtain ⟨b, hb⟩ := hrel.mr.dom o' ob h2
      exact ⟨b, hb⟩)
    (fun i hl => callee_lv fp _ hml hmA hmB hl)
    (fun o' h1 h2 => by
      have := hnew o' h1 (by omega)
      exact ⟨this, fresh_iota hdom this⟩) hpost (d := o.dst) (fun d hd' => by rw [hntn]; exact hd d hd') hxr hv
    (fun i obj hi q hq => hm' q (ptrsM_mem hi hq))
  obtain ⟨pg, pm⟩ := puts_objs fp (renM (toCaller fp N) mem') N S hn (by rw [renM_eq, List.length_map]; exact hle) hdisj
  have hview : S.puts (wrsObjs N fp (renM (toCaller fp N) mem') ++ dstW o.dst (v.ren (toCaller fp N))) = ⟨setd S.g o.dst (v.ren (toCaller fp N)), memBack fp N mem' S.m⟩ := by
    rw [puts_append]
    have h1 : S.puts (wrsObjs N fp (renM (toCaller fp N) mem')) = ⟨S.g, memBack fp N mem' S.m⟩ := by
      have : ∀ V : Vw, V = ⟨V.g, V.m⟩ := fun V => rfl
      rw [this (S.puts _), pg]
      congr 1
      funext o'
      rw [pm o']
      simp only [memBack]
      cases fp.idxOf? o' with
      | some i => simp only [renM_eq, List.getElem?_map]
      | none => simp only [renM_eq, List.getElem?_map, List.length_map]
    rw [h1]
    cases o.dst <;> rfl
  rw [hview]
  refine ⟨R', _, _, hcalled, fun n' b hb => ?_⟩
  simp only [iotaBack] at hb
  simp only [memBack]
  cases hix : fp.idxOf? n' with
  | some i =>
    have hi := (List.getElem?_eq_some_iff.1 (get_idxOf hix)).1
    have hi2 : mem'[i]? = some (mem'[i]'(by omega)) := List.getElem?_eq_getElem (by omega)
    show ∃ obj, Option.map (AV.renL (toCaller fp N)) mem'[i]? = some obj
    rw [hi2]
    exact ⟨_, rfl⟩
  | none =>
    simp only
    split at hb
    · rename_i hin
      rw [if_pos hin, List.getElem?_eq_getElem hin.2]
      exact ⟨_, rfl⟩
    · rename_i hin
      rw [if_neg hin]
      exact hdom n' b hb

end Go.Aw
end
section
set_option linter.unusedSimpArgs false
namespace Go.Aw
open Go.RowKit

/-- An operation that tells a value, out of its operands' values and of package variables. -/
theorem does_valueK {P : Program} [GT P] {nt : Nat} {o : Oper} {d : Nat} {rds : List Rd} {v : AV} (hdst : o.dst = some d) (hd : d < nt)
    (h : ∀ (Γ : Gam) (S : Vw) (a : Act) (w : World) R ι ω, GOK P w R → (∀ r, r ∈ rds → S.has r) → Rel Γ S.g S.m a w R ι ω →
      ∃ x, (execOp a.eval o).run P w = .ok (.value x) w ∧ Rep w R ι ω [0, d] v x) : Does P nt o rds [.s d (some v)] := by
  intro Γ S a w next Q hnt hr hrel hn
  have hntn := hnt.1
  obtain ⟨R, ι, ω, hrel, hdom⟩ := hrel
  obtain ⟨x, hx, hrep⟩ := h Γ S a w R ι ω (hnt.2.ext hrel.env.ext) hr hrel
  refine wp_value hx (hn _ _ ?_)
  rw [hdst]
  exact RelV.set hrel hdom (by omega) hrep

theorem does_indexG {P : Program} [GT P] {nt : Nat} {o : Oper} {d t e len g : Nat} {i : Operand} {cells : List AV} {r : AV} {k : IntKind} {n : Int} {ie : TypeInfo}
    (hop : o.op = .indexAddr t (.global g) i) (hdst : o.dst = some d) (hd : d < nt) (ht : P.underlying t = some (.array len e)) (hi : P.info? e = some ie)
    (hg : GT.tab P g = some cells) (hn : Opd i (.int k n)) (h0 : 0 ≤ n) (hl : n < len) (hr : addPtr (n.toNat * ie.size) (.eptr cells 0) = some r) :
    Does P nt o (rdOf i (.int k n)) [.s d (some r)] :=
  does_valueK hdst hd fun Γ S a w R ι ω hgk hrd hrel => by
    have h1 : Rep w R ι ω [9] (.eptr cells 0) (a.eval (.global g)) := .pure _ _ _ (hgk g cells hg)
    have h2 := (hn.rep hrel hrd).int_inv
    obtain ⟨b, off, hx2, h3⟩ := addPtr_rep hr h1
    refine ⟨_, ?_, h3 _⟩
    simp [execOp, hop, hx2, h2, Instr.indexAt, asIntOf, run_underlying ht, h0, hl, sizeOf, typeInfo, hi, Instr.sureAddr, Addr.add_lit]

theorem does_loadGAgg {P : Program} [GT P] {nt : Nat} {o : Oper} {d t g sz : Nat} {y : List AV} {dt : TypeDesc} (hop : o.op = .load t (.global g)) (hdst : o.dst = some d) (hd : d < nt)
    (ht : P.underlying t = some dt) (hrow : dt.isRow = true) (hi : (P.info? t).map (·.size) = some sz) (hg : GT.tab P g = some y) (hl : sz = y.length) :
    Does P nt o [] [.s d (some (.agg y))] :=
  does_valueK hdst hd fun Γ S a w R ι ω hgk hrd hrel => by
    have h1 := hgk g y hg
    generalize hX : (Value.pointer (some ⟨g, 0, none⟩)) = X at h1
    have hX' : a.eval (.global g) = X := by rw [← hX]; rfl
    cases h1 with
    | eptr y b o' off val hcell hval =>
        refine ⟨.agg ((List.range sz).map fun j => val (0 + j)).toArray, ?_, .agg _ _ _ (by simp; omega) ?_⟩
        · have := run_loadAt_mid (P := P) w b (o' + 0) t ((List.range sz).map fun j => val (0 + j)) dt (fun j v hj => by
            have hj2 : j < sz := by have := (List.getElem?_eq_some_iff.1 hj).1; simpa using this
            rw [List.getElem?_map, List.getElem?_range hj2] at hj
            simp only [Option.map_some] at hj; injection hj with hj; subst hj
            have := (hcell (0 + j) (by omega)).1
            rw [Nat.add_assoc]; exact this) ht hrow (by simpa using hi)
          simp only [Nat.add_zero, Nat.zero_add] at this hX' ⊢
          simp [execOp, hop, hX', this]
        · intro j v z hv hz
          have hj2 : j < sz := by have := (List.getElem?_eq_some_iff.1 hv).1; omega
          simp only [List.getElem?_toArray, List.getElem?_map, List.getElem?_range hj2, Option.map_some] at hz
          injection hz with hz; subst hz
          exact .pure _ _ _ (hval (0 + j) v (by simpa using hv))

/-- An array's value, read at a place. -/
theorem does_indexV {P : Program} [GT P] {nt : Nat} {o : Oper} {d t e len : Nat} {x i : Operand} {cs : List AV} {k : IntKind} {n : Int} {ie : TypeInfo} {de : TypeDesc}
    (hop : o.op = .index t x i) (hdst : o.dst = some d) (hd : d < nt) (ht : P.underlying t = some (.array len e)) (hi : P.info? e = some ie) (he : P.underlying e = some de) (hrow : de.isRow = true)
    (hx : Opd x (.agg cs)) (hn : Opd i (.int k n)) (h0 : 0 ≤ n) (hl : n < len) (hlen : n.toNat * ie.size + ie.size ≤ cs.length) :
    Does P nt o (rdOf x (.agg cs) ++ rdOf i (.int k n)) [.s d (some (.agg (AV.roL ((cs.drop (n.toNat * ie.size)).take ie.size))))] :=
  does_value hdst hd fun Γ S a w R ι ω hrd hrel => by
    obtain ⟨r1, r2⟩ := mem_app hrd
    have h1 := hx.rep hrel r1
    have h2 := (hn.rep hrel r2).int_inv
    generalize hX : a.eval x = X at h1
    cases h1 with
    | pure p v x' h => cases h
    | agg p cs vs hlv hv =>
      refine ⟨.agg (vs.extract (n.toNat * ie.size) (n.toNat * ie.size + ie.size)), ?_, .agg _ _ _ ?_ ?_⟩
      · have hagg : (isAgg e).run P w = .ok true w := by
          unfold isAgg; rw [Sem.run_bind, run_underlying he w]
          cases de <;> simp_all
        simp [execOp, hop, hX, h2, Instr.index, asIntOf, run_underlying ht, h0, hl, sizeOf, typeInfo, hi, part, hagg]
      · rw [roL_length]; simp; omega
      · intro j v z hv' hz
        obtain ⟨u, hu, rfl⟩ := roL_get hv'
        have hj2 : j < ie.size := by have := (List.getElem?_eq_some_iff.1 hu).1; rw [List.length_take] at this; omega
        rw [List.getElem?_take_of_lt hj2, List.getElem?_drop] at hu
        rw [Array.getElem?_extract] at hz
        split at hz
        · exact (hv _ u z hu (by simpa using hz)).ro _ _
        · cases hz

end Go.Aw
end
section
set_option linter.unusedSimpArgs false
namespace Go.Aw
open Go.RowKit

/-- Two scalars: are they the same? -/
def eqAV : AV → AV → Option Bool
  | .int k a, .int k' b => if k = k' then some (a == b) else none
  | .bool a, .bool b => some (a == b)
  | .str a, .str b => some (a == b)
  | _, _ => none
def eqCells : List AV → List AV → Option Bool
  | [], [] => some true
  | a :: r, b :: l => match eqAV a b, eqCells r l with
    | some x, some y => some (x && y)
    | _, _ => none
  | _, _ => none
def scalarT (P : Program) (t : TypeId) (v : AV) : Bool :=
  match P.underlying t, v with
  | some (.int _), .int _ _ => true
  | some .bool, .bool _ => true
  | some .string, .str _ => true
  | _, _ => false
def flatF (P : Program) : Nat → List Field → List AV → Bool
  | _, [], [] => true
  | i, f :: r, v :: l => (f.offset == i && f.name != "_") && (scalarT P f.type v && flatF P (i + 1) r l)
  | _, _, _ => false

theorem equalIn_scalar {P : Program} {t : TypeId} {u v : AV} {b : Bool} {x y : Value} {w : World} {R : Ext0} {ι : Nat → Option Nat} {ω : Nat → Option (List Nat)} {p q : List Nat} (hs : scalarT P t u = true) (h : eqAV u v = some b)
    (hu : Rep w R ι ω p u x) (hv : Rep w R ι ω q v y) (d : Nat) : (Op.equalIn (d + 1) t x y).run P w = .ok b w ∧ (isAgg t).run P w = .ok false w := by
  unfold scalarT at hs
  split at hs
  · rename_i k k' n ht
    cases v <;> simp only [eqAV, reduceCtorEq] at h
    rename_i k2 n2
    split at h
    · rename_i hk; subst hk
      injection h with h; subst h
      have hx := hu.int_inv; subst hx
      have hy := hv.int_inv; subst hy
      exact ⟨by simp [Op.equalIn, run_underlying ht], by unfold isAgg; simp [run_underlying ht]⟩
    · cases h
  · rename_i n ht
    cases v <;> simp only [eqAV, reduceCtorEq] at h
    injection h with h; subst h
    have hx := hu.bool_inv; subst hx
    have hy := hv.bool_inv; subst hy
    exact ⟨by simp [Op.equalIn, run_underlying ht], by unfold isAgg; simp [run_underlying ht]⟩
  · rename_i n ht
    cases v <;> simp only [eqAV, reduceCtorEq] at h
    injection h with h; subst h
    have hx := hu.str_inv; subst hx
    have hy := hv.str_inv; subst hy
    exact ⟨by simp [Op.equalIn, run_underlying ht], by unfold isAgg; simp [run_underlying ht]⟩
  · cases hs

theorem equal_flat {P : Program} {t : TypeId} {fields : Array Field} {us vs : List AV} {b : Bool} {xs ys : Array Value} {w : World} {R : Ext0} {ι : Nat → Option Nat} {ω : Nat → Option (List Nat)} {p q : List Nat}
    (ht : P.underlying t = some (.struct fields)) (hst : P.stoodInHeld t = false) (hf : flatF P 0 fields.toList us = true) (h : eqCells us vs = some b)
    (hu : Rep w R ι ω p (.agg us) (.agg xs)) (hv : Rep w R ι ω q (.agg vs) (.agg ys)) (d : Nat) : (Op.equalIn (d + 2) t (.agg xs) (.agg ys)).run P w = .ok b w := by
  unfold Op.equalIn
  simp [run_underlying ht, program, Sem.run, hst]
  have hus : ∀ (j : Nat) u, us[j]? = some u → ∃ x p, xs[j]? = some x ∧ Rep w R ι ω p u x := by
    intro j u hj
    cases hu with
    | pure p v x h => cases h
    | agg p cs vs' hl hc =>
      have hlt := (List.getElem?_eq_some_iff.1 hj).1
      exact ⟨xs[j]'(by omega), _, Array.getElem?_eq_getElem (by omega), hc j u _ hj (Array.getElem?_eq_getElem (by omega))⟩
  have hvs : ∀ (j : Nat) u, vs[j]? = some u → ∃ x p, ys[j]? = some x ∧ Rep w R ι ω p u x := by
    intro j u hj
    cases hv with
    | pure p v x h => cases h
    | agg p cs vs' hl hc =>
      have hlt := (List.getElem?_eq_some_iff.1 hj).1
      exact ⟨ys[j]'(by omega), _, Array.getElem?_eq_getElem (by omega), hc j u _ hj (Array.getElem?_eq_getElem (by omega))⟩
  have key : ∀ (fs : List Field) (us vs : List AV) (i : Nat) (b : Bool), flatF P i fs us = true → eqCells us vs = some b →
      (∀ (j : Nat) u, us[j]? = some u → ∃ x p, xs[i + j]? = some x ∧ Rep w R ι ω p u x) → (∀ (j : Nat) u, vs[j]? = some u → ∃ x p, ys[i + j]? = some x ∧ Rep w R ι ω p u x) →
      Sem.run P (forIn fs ((none, ()) : Option Bool × Unit) fun f __s =>
            if f.name = "_" then pure (ForInStep.yield (none, ()))
            else do
              let __do_lift ← part f.type xs f.offset
              let __do_lift_1 ← part f.type ys f.offset
              let __do_lift ← Op.equalIn (d + 1) f.type __do_lift __do_lift_1
              if __do_lift = false then pure (ForInStep.done (some false, ())) else pure (ForInStep.yield (none, ()))) w = .ok (if b = true then (none, ()) else (some false, ())) w := by
    intro fs
    induction fs with
    | nil =>
      intro us vs i b hf h _ _
      cases us with
      | cons u us => cases hf
      | nil =>
        cases vs with
        | cons v vs => cases h
        | nil => simp only [eqCells] at h; injection h with h; subst h; rfl
    | cons f fs ih =>
      intro us vs i b hf h h1 h2
      cases us with
      | nil => cases hf
      | cons u us =>
        cases vs with
        | nil => cases h
        | cons v vs =>
          simp only [flatF, Bool.and_eq_true, beq_iff_eq, bne_iff_ne, ne_eq] at hf
          obtain ⟨⟨ho, hn⟩, hsc, hf⟩ := hf
          simp only [eqCells] at h
          cases hb1 : eqAV u v with
          | none => rw [hb1] at h; cases h
          | some b1 =>
            rw [hb1] at h; (try simp only at h)
            cases hb2 : eqCells us vs with
            | none => rw [hb2] at h; cases h
            | some b2 =>
              rw [hb2] at h; (try simp only at h); injection h with h; subst h
              obtain ⟨x, p1, hx, hxr⟩ := h1 0 u rfl
              obtain ⟨y, p2, hy, hyr⟩ := h2 0 v rfl
              obtain ⟨e1, e2⟩ := equalIn_scalar hsc hb1 hxr hyr d
              have hx' : xs[f.offset]? = some x := by rw [ho]; simpa using hx
              have hy' : ys[f.offset]? = some y := by rw [ho]; simpa using hy
              have px : (part f.type xs f.offset).run P w = .ok x w := by unfold part; rw [Sem.run_bind, e2, Result.andThen_ok]; simp [hx']
              have py : (part f.type ys f.offset).run P w = .ok y w := by unfold part; rw [Sem.run_bind, e2, Result.andThen_ok]; simp [hy']
              rw [List.forIn_cons]
              simp only [hn, if_false]
              rw [Sem.run_bind, Sem.run_bind, px, Result.andThen_ok, Sem.run_bind, py, Result.andThen_ok, Sem.run_bind, e1, Result.andThen_ok]
              cases b1 with
              | false => rfl
              | true =>
                have := ih us vs (i + 1) b2 hf hb2 (fun j u hj => by have := h1 (j + 1) u (by simpa using hj); rwa [show i + (j + 1) = i + 1 + j from by omega] at this)
                  (fun j u hj => by have := h2 (j + 1) u (by simpa using hj); rwa [show i + (j + 1) = i + 1 + j from by omega] at this)
                simpa using this
  have := key fields.toList us vs 0 b hf h (fun j u hj => by simpa using hus j u hj) (fun j u hj => by simpa using hvs j u hj)
  rw [← Array.forIn_toList, this]
  cases b <;> simp

theorem does_eqFlat {P : Program} [GT P] {nt : Nat} {o : Oper} {d : Nat} {t t' : TypeId} {x y : Operand} {op : BinOp} {us vs : List AV} {b r : Bool} {fields : Array Field}
    (hop : o.op = .binOp op t x y t') (hr : op = .eql ∧ r = b ∨ op = .neq ∧ r = !b) (hdst : o.dst = some d) (hd : d < nt) (ht : P.underlying t = some (.struct fields)) (hst : P.stoodInHeld t = false) (hg : P.eqGuardType P.depth t = false)
    (hf : flatF P 0 fields.toList us = true) (h : eqCells us vs = some b) (hx : Opd x (.agg us)) (hy : Opd y (.agg vs)) :
    Does P nt o (rdOf x (.agg us) ++ rdOf y (.agg vs)) [.s d (some (.bool r))] :=
  does_value hdst hd fun Γ S a w R ι ω hrd hrel => by
    obtain ⟨r1, r2⟩ := mem_app hrd
    have h1 := hx.rep hrel r1
    have h2 := hy.rep hrel r2
    generalize hX : a.eval x = X at h1
    generalize hY : a.eval y = Y at h2
    have ex : ∃ xs, X = .agg xs := by
      cases h1 with
      | pure p v x' h => cases h
      | agg p cs vs' hl hc => exact ⟨_, rfl⟩
    have ey : ∃ xs, Y = .agg xs := by
      cases h2 with
      | pure p v x' h => cases h
      | agg p cs vs' hl hc => exact ⟨_, rfl⟩
    obtain ⟨xs, rfl⟩ := ex
    obtain ⟨ys, rfl⟩ := ey
    have he : (Op.equal t (.agg xs) (.agg ys)).run P w = .ok b w := by
      unfold Op.equal
      exact equal_flat ht hst hf h h1 h2 9998
    refine ⟨.bool r, ?_, .pure _ _ _ (.bool _)⟩
    rcases hr with ⟨rfl, rfl⟩ | ⟨rfl, rfl⟩
    · simp [execOp, hop, hX, hY, eqGuard, program, Sem.run, hg, binOp, he]
    · simp [execOp, hop, hX, hY, eqGuard, program, Sem.run, hg, binOp, he]

end Go.Aw
end
section
set_option linter.unusedSimpArgs false
set_option linter.unusedVariables false
namespace Go.Aw
open Go.RowKit

abbrev XR := Option (Bool × List Rd × List Wr)
def lt (d nt : Nat) : Bool := Nat.blt d nt
theorem lt_iff {d nt : Nat} : lt d nt = true ↔ d < nt := by unfold lt; rw [Nat.blt_eq]

def isRowT (P : Program) (t : TypeId) : Bool := match P.underlying t with | some d => d.isRow | none => false
def fieldsOf (P : Program) (t : TypeId) : Option (List Field) := match P.underlying t with | some (.struct fs) => some fs.toList | _ => none
def eqOk (P : Program) (t : TypeId) : Bool := !P.stoodInHeld t && !P.eqGuardType P.depth t

def nLoadG (P : Program) [GT P] (nt : Nat) (dst : Option Nat) (t : TypeId) (g : Nat) : XR :=
  match dst, tiOf P t, GT.tab P g with
  | some d, some ti, some cells => some (lt d nt && ti.d.row && Nat.beq ti.size cells.length, [], [.s d (some (.agg cells))])
  | _, _, _ => none
def nIndexG (P : Program) [GT P] (nt : Nat) (dst : Option Nat) (t : TypeId) (g : Nat) (i : Operand) (st : St) : XR :=
  match dst, tdOf P t, GT.tab P g, st.ev i with
  | some d, some (.array len e), some cells, some (.int kd n) => match tiOf P e with
    | some te => some (lt d nt && (decide (0 ≤ n) && decide (n < len)), rdOf i (.int kd n), [.s d (some (.eptr cells (0 + n.toNat * te.size)))])
    | none => none
  | _, _, _, _ => none
def nIndexV (P : Program) [GT P] (nt : Nat) (dst : Option Nat) (t : TypeId) (x i : Operand) (st : St) : XR :=
  match dst, tdOf P t, st.ev x, st.ev i with
  | some d, some (.array len e), some (.agg cs), some (.int kd n) => match tiOf P e with
    | some te => some (lt d nt && (te.d.row && (decide (0 ≤ n) && (decide (n < len) && Nat.ble (n.toNat * te.size + te.size) cs.length))),
        rdOf x (.agg cs) ++ rdOf i (.int kd n), [.s d (some (.agg (AV.roL ((cs.drop (n.toNat * te.size)).take te.size))))])
    | none => none
  | _, _, _, _ => none
def nEq (P : Program) [GT P] (nt : Nat) (dst : Option Nat) (op : BinOp) (t : TypeId) (x y : Operand) (st : St) : XR :=
  match dst, st.ev x, st.ev y with
  | some d, some (.agg us), some (.agg vs) => match fieldsOf P t, eqCells us vs, op with
    | some fs, some b, .eql => some (lt d nt && (eqOk P t && flatF P 0 fs us), rdOf x (.agg us) ++ rdOf y (.agg vs), [.s d (some (.bool b))])
    | some fs, some b, .neq => some (lt d nt && (eqOk P t && flatF P 0 fs us), rdOf x (.agg us) ++ rdOf y (.agg vs), [.s d (some (.bool (!b)))])
    | _, _, _ => none
  | _, _, _ => none

def xNewA (P : Program) [GT P] (nt : Nat) (o : Oper) (st : St) : XR :=
  match o.op with
  | .load t (.global g) => nLoadG P nt o.dst t g
  | .indexAddr t (.global g) i => nIndexG P nt o.dst t g i st
  | .index t x i => nIndexV P nt o.dst t x i st
  | .binOp op t x y _ => nEq P nt o.dst op t x y st
  | _ => none

def NewOk (P : Program) [GT P] (nt : Nat) (o : Oper) (st : St) (r : List Rd) (w : List Wr) : Prop :=
  Does P nt o r w ∧ (∀ x, x ∈ r → st.view.has x) ∧ wfW st.mem.length w

theorem nLoadG_s {P : Program} [GT P] {nt : Nat} {o : Oper} {st : St} {t g : Nat} {r : List Rd} {w : List Wr} (hop : o.op = .load t (.global g)) (h : nLoadG P nt o.dst t g = some (true, r, w)) : NewOk P nt o st r w := by
  unfold nLoadG at h
  split at h
  · rename_i d ti cells hd hti hg
    injection h with h; injection h with h1 h2; injection h2 with h2 h3; subst h2; subst h3
    simp only [Bool.and_eq_true, lt_iff, Nat.beq_eq] at h1
    obtain ⟨i, z, htd, hi, hz, hzc, hzl, hsz, hby⟩ := tiOf_spec hti
    obtain ⟨dt, hdt, hrow, _⟩ := tdOf_row htd
    exact ⟨does_loadGAgg hop hd h1.1.1 hdt (hrow.trans h1.1.2) (sz := i.size) (by rw [hi]; rfl) hg (by omega), by simp, trivial⟩
  · cases h
theorem nIndexG_s {P : Program} [GT P] {nt : Nat} {o : Oper} {st : St} {t g : Nat} {i : Operand} {r : List Rd} {w : List Wr} (hop : o.op = .indexAddr t (.global g) i) (h : nIndexG P nt o.dst t g i st = some (true, r, w)) : NewOk P nt o st r w := by
  unfold nIndexG at h
  split at h
  · rename_i d len e cells kd n hd htd hg hi
    obtain ⟨hi1, hi2⟩ := ev_spec hi
    split at h
    · rename_i te hte
      injection h with h; injection h with h1 h2; injection h2 with h2 h3; subst h2; subst h3
      simp only [Bool.and_eq_true, lt_iff, decide_eq_true_eq] at h1
      obtain ⟨ie, z, htd', hie, hz, hzc, hzl, hsz, hby⟩ := tiOf_spec hte
      rw [← hsz]
      exact ⟨does_indexG hop hd h1.1 (tdOf_array htd) hie hg hi1 h1.2.1 h1.2.2 rfl, hi2, trivial⟩
    · cases h
  · cases h
theorem nIndexV_s {P : Program} [GT P] {nt : Nat} {o : Oper} {st : St} {t : Nat} {x i : Operand} {r : List Rd} {w : List Wr} (hop : o.op = .index t x i) (h : nIndexV P nt o.dst t x i st = some (true, r, w)) : NewOk P nt o st r w := by
  unfold nIndexV at h
  split at h
  · rename_i d len e cs kd n hd htd hx hi
    obtain ⟨hi1, hi2⟩ := ev_spec hi
    obtain ⟨hx1, hx2⟩ := ev_spec hx
    split at h
    · rename_i te hte
      injection h with h; injection h with h1 h2; injection h2 with h2 h3; subst h2; subst h3
      simp only [Bool.and_eq_true, lt_iff, decide_eq_true_eq, Nat.ble_eq] at h1
      obtain ⟨ie, z, htd', hie, hz, hzc, hzl, hsz, hby⟩ := tiOf_spec hte
      obtain ⟨dt, hdt, hrow, _⟩ := tdOf_row htd'
      rw [← hsz] at h1 ⊢
      exact ⟨does_indexV hop hd h1.1 (tdOf_array htd) hie hdt (hrow.trans h1.2.1) hx1 hi1 h1.2.2.1 h1.2.2.2.1 h1.2.2.2.2, has_append hx2 hi2, trivial⟩
    · cases h
  · cases h
theorem nEq_s {P : Program} [GT P] {nt : Nat} {o : Oper} {st : St} {t t' : TypeId} {op : BinOp} {x y : Operand} {r : List Rd} {w : List Wr} (hop : o.op = .binOp op t x y t') (h : nEq P nt o.dst op t x y st = some (true, r, w)) : NewOk P nt o st r w := by
  unfold nEq at h
  split at h
  · rename_i d us vs hd hx hy
    obtain ⟨hy1, hy2⟩ := ev_spec hy
    obtain ⟨hx1, hx2⟩ := ev_spec hx
    have hfs : ∀ fs, fieldsOf P t = some fs → ∃ fa, P.underlying t = some (.struct fa) ∧ fa.toList = fs := by
      intro fs hf
      unfold fieldsOf at hf
      split at hf
      · rename_i fa hfa; injection hf with hf; exact ⟨fa, hfa, hf⟩
      · cases hf
    split at h
    · rename_i fs b hf hb
      injection h with h; injection h with h1 h2; injection h2 with h2 h3; subst h2; subst h3
      obtain ⟨fa, hfa, rfl⟩ := hfs _ hf
      simp only [Bool.and_eq_true, lt_iff, eqOk, Bool.not_eq_true'] at h1
      exact ⟨does_eqFlat hop (.inl ⟨rfl, rfl⟩) hd h1.1 hfa h1.2.1.1 h1.2.1.2 h1.2.2 hb hx1 hy1, has_append hx2 hy2, trivial⟩
    · rename_i fs b hf hb
      injection h with h; injection h with h1 h2; injection h2 with h2 h3; subst h2; subst h3
      obtain ⟨fa, hfa, rfl⟩ := hfs _ hf
      simp only [Bool.and_eq_true, lt_iff, eqOk, Bool.not_eq_true'] at h1
      exact ⟨does_eqFlat hop (.inr ⟨rfl, rfl⟩) hd h1.1 hfa h1.2.1.1 h1.2.1.2 h1.2.2 hb hx1 hy1, has_append hx2 hy2, trivial⟩
    · cases h
  · cases h

theorem xNewA_s {P : Program} [GT P] {nt : Nat} {o : Oper} {st : St} {r : List Rd} {w : List Wr} (h : xNewA P nt o st = some (true, r, w)) : NewOk P nt o st r w := by
  unfold xNewA at h
  split at h
  · rename_i hop; exact nLoadG_s hop h
  · rename_i hop; exact nIndexG_s hop h
  · rename_i hop; exact nIndexV_s hop h
  · rename_i hop; exact nEq_s hop h
  · cases h

end Go.Aw
end
section
set_option linter.unusedSimpArgs false
set_option linter.unusedVariables false
namespace Go.Aw
open Go.RowKit

theorem Rep.msl_inv {w : World} {R : Ext0} {ι : Nat → Option Nat} {ω : Nat → Option (List Nat)} {p : List Nat} {o off len sz : Nat} {x : Value} (h : Rep w R ι ω p (.msl o off len sz) x) :
    ∃ b c, x = .slice (some ⟨b, off, none⟩) len c ∧ ι o = some b ∧ len ≤ c ∧ ∃ arr e fz, w.heap[b]? = some (.cells arr e fz) ∧ off + c * sz ≤ arr.size := by
  cases h with
  | pure p v x h => cases h
  | msl p o off len sz b c h hc hcap => exact ⟨b, c, rfl, h, hc, hcap⟩

theorem does_lenM {P : Program} [GT P] {nt : Nat} {o : Oper} {d t e n off len sz : Nat} {x : Operand} {tys : Array TypeId} (hop : o.op = .call { callee := .builtin .len, args := #[x], argTypes := tys }) (htys : tys[0]? = some t)
    (hdst : o.dst = some d) (hd : d < nt) (ht : P.underlying t = some (.slice e)) (hx : Opd x (.msl n off len sz)) : Does P nt o (rdOf x (.msl n off len sz)) [.s d (some (.int .i64 len))] :=
  does_value hdst hd fun Γ S a w R ι ω hrd hrel => by
    obtain ⟨b, c, hX, _⟩ := (hx.rep hrel hrd).msl_inv
    refine ⟨.int .i64 len, ?_, .pure _ _ _ (.int _ _)⟩
    simp [execOp, hop, resolve, invoke, builtin, Builtin.len_, htys, hX, run_underlying ht, goInt]

theorem does_lenNilsl {P : Program} [GT P] {nt : Nat} {o : Oper} {d t e : Nat} {x : Operand} {tys : Array TypeId} (hop : o.op = .call { callee := .builtin .len, args := #[x], argTypes := tys }) (htys : tys[0]? = some t)
    (hdst : o.dst = some d) (hd : d < nt) (ht : P.underlying t = some (.slice e)) (hx : Opd x .nilsl) : Does P nt o (rdOf x .nilsl) [.s d (some (.int .i64 0))] :=
  does_value hdst hd fun Γ S a w R ι ω hrd hrel => by
    have h1 := hx.rep hrel hrd
    generalize hX : a.eval x = X at h1
    cases h1 with
    | pure p v x h => cases h with
      | nilsl =>
        refine ⟨.int .i64 0, ?_, .pure _ _ _ (.int _ _)⟩
        simp [execOp, hop, resolve, invoke, builtin, Builtin.len_, htys, hX, run_underlying ht, goInt]

theorem does_indexM {P : Program} [GT P] {nt : Nat} {o : Oper} {d t e q off len sz : Nat} {x i : Operand} {k : IntKind} {n : Int} {ie : TypeInfo}
    (hop : o.op = .indexAddr t x i) (hdst : o.dst = some d) (hd : d < nt) (ht : P.underlying t = some (.slice e)) (hi : P.info? e = some ie) (hsz : ie.size = sz)
    (hx : Opd x (.msl q off len sz)) (hn : Opd i (.int k n)) (h0 : 0 ≤ n) (hl : n < len) :
    Does P nt o (rdOf x (.msl q off len sz) ++ rdOf i (.int k n)) [.s d (some (.ptr q (off + n.toNat * sz)))] :=
  does_value hdst hd fun Γ S a w R ι ω hrd hrel => by
    obtain ⟨r1, r2⟩ := mem_app hrd
    obtain ⟨b, c, hX, hb, hc, _⟩ := (hx.rep hrel r1).msl_inv
    have h2 := (hn.rep hrel r2).int_inv
    subst hsz
    refine ⟨.pointer (some ⟨b, off + n.toNat * ie.size, none⟩), ?_, .ptr _ _ _ _ hb⟩
    simp [execOp, hop, hX, h2, Instr.indexAt, asIntOf, run_underlying ht, h0, hl, sizeOf, typeInfo, hi, Addr.add_lit]

theorem does_sliceM {P : Program} [GT P] {nt : Nat} {o : Oper} {d t e q off len sz : Nat} {x : Operand} {lo hi : Option Operand} {kl kh : IntKind} {l h : Int} {i : TypeInfo}
    (hop : o.op = .slice t x lo hi none) (hdst : o.dst = some d) (hd : d < nt) (ht : P.underlying t = some (.slice e)) (hi' : P.info? e = some i) (hsz : i.size = sz)
    (hx : Opd x (.msl q off len sz)) (hlo : OpdO lo kl l 0) (hhi : OpdO hi kh h len) (h0 : 0 ≤ l) (h1 : l ≤ h) (h2 : h ≤ len) (h3 : l = 0 ∨ l < h) :
    Does P nt o (rdOf x (.msl q off len sz) ++ (rdO lo kl l ++ rdO hi kh h)) [.s d (some (.msl q (off + l.toNat * sz) (h.toNat - l.toNat) sz))] :=
  does_value hdst hd fun Γ S a w R ι ω hrd hrel => by
    obtain ⟨r1, r23⟩ := mem_app hrd
    obtain ⟨r2, r3⟩ := mem_app r23
    obtain ⟨b, c, hX, hb, hc, arr, el, fz, g1, g2⟩ := (hx.rep hrel r1).msl_inv
    have vlo := hlo.val hrel r2
    have vhi := hhi.val hrel r3
    subst hsz
    have hbounds : (Instr.sliceBounds true len c (lo.map a.eval) (hi.map a.eval) none).run P w = .ok (l.toNat, h.toNat, c) w := by
      unfold Instr.sliceBounds
      rcases vlo with ⟨rfl, rfl⟩ | ⟨y, rfl, hy⟩ <;> rcases vhi with ⟨rfl, rfl⟩ | ⟨y2, rfl, hy2⟩
      · simp
      · simp [hy2, run_sliceBound (P := P) (w := w) (k := kh) (n := h) (y := c) (by omega : (0 : Int) ≤ h) (by omega)]
      · simp [hy, run_sliceBound (P := P) (w := w) (k := kl) (n := l) (y := len) h0 (by omega)]
      · simp [hy, hy2, run_sliceBound (P := P) (w := w) (k := kh) (n := h) (y := c) (by omega : (0 : Int) ≤ h) (by omega),
          run_sliceBound (P := P) (w := w) (k := kl) (n := l) (y := h.toNat) h0 (by omega)]
    have hrun : (Instr.sliceAt t (.slice (some ⟨b, off, none⟩) len c) (lo.map a.eval) (hi.map a.eval) none).run P w =
        .ok (.slice (if c = l.toNat then some ⟨b, off, none⟩ else (some (⟨b, off, none⟩ : Addr)).map (·.add (l.toNat * i.size))) (h.toNat - l.toNat) (c - l.toNat)) w := by
      simp [Instr.sliceAt, Instr.slice, run_underlying ht, hbounds, sizeOf, typeInfo, hi']
    have haddr : (if c = l.toNat then some ⟨b, off, none⟩ else (some (⟨b, off, none⟩ : Addr)).map (·.add (l.toNat * i.size))) = some ⟨b, off + l.toNat * i.size, none⟩ := by
      split
      · have : l = 0 := by omega
        subst this; simp
      · simp [Addr.add_lit]
    refine ⟨.slice (some ⟨b, off + l.toNat * i.size, none⟩) (h.toNat - l.toNat) (c - l.toNat), ?_, .msl _ _ _ _ _ _ _ hb (by omega) ⟨arr, el, fz, g1, ?_⟩⟩
    · rw [haddr] at hrun
      simp [execOp, hop, hX, hrun]
    · have : l.toNat * i.size + (c - l.toNat) * i.size = c * i.size := by rw [← Nat.add_mul]; congr 1; omega
      omega

/-- An end of an object's slice: nothing in it. -/
theorem does_sliceM0 {P : Program} [GT P] {nt : Nat} {o : Oper} {d t e q off len sz : Nat} {x : Operand} {lo hi : Option Operand} {kl kh : IntKind} {l h : Int} {i : TypeInfo}
    (hop : o.op = .slice t x lo hi none) (hdst : o.dst = some d) (hd : d < nt) (ht : P.underlying t = some (.slice e)) (hi' : P.info? e = some i)
    (hx : Opd x (.msl q off len sz)) (hlo : OpdO lo kl l 0) (hhi : OpdO hi kh h len) (h0 : 0 ≤ l) (h1 : l = h) (h2 : h ≤ len) :
    Does P nt o (rdOf x (.msl q off len sz) ++ (rdO lo kl l ++ rdO hi kh h)) [.s d (some (.list none []))] :=
  does_value hdst hd fun Γ S a w R ι ω hrd hrel => by
    obtain ⟨r1, r23⟩ := mem_app hrd
    obtain ⟨r2, r3⟩ := mem_app r23
    obtain ⟨b, c, hX, hb, hc, arr, el, fz, g1, g2⟩ := (hx.rep hrel r1).msl_inv
    have vlo := hlo.val hrel r2
    have vhi := hhi.val hrel r3
    have hbounds : (Instr.sliceBounds true len c (lo.map a.eval) (hi.map a.eval) none).run P w = .ok (l.toNat, h.toNat, c) w := by
      unfold Instr.sliceBounds
      rcases vlo with ⟨rfl, rfl⟩ | ⟨y, rfl, hy⟩ <;> rcases vhi with ⟨rfl, rfl⟩ | ⟨y2, rfl, hy2⟩
      · simp
      · simp [hy2, run_sliceBound (P := P) (w := w) (k := kh) (n := h) (y := c) (by omega : (0 : Int) ≤ h) (by omega)]
      · simp [hy, run_sliceBound (P := P) (w := w) (k := kl) (n := l) (y := len) h0 (by omega)]
      · simp [hy, hy2, run_sliceBound (P := P) (w := w) (k := kh) (n := h) (y := c) (by omega : (0 : Int) ≤ h) (by omega),
          run_sliceBound (P := P) (w := w) (k := kl) (n := l) (y := h.toNat) h0 (by omega)]
    have hrun : (Instr.sliceAt t (.slice (some ⟨b, off, none⟩) len c) (lo.map a.eval) (hi.map a.eval) none).run P w =
        .ok (.slice (if c = l.toNat then some ⟨b, off, none⟩ else (some (⟨b, off, none⟩ : Addr)).map (·.add (l.toNat * i.size))) (h.toNat - l.toNat) (c - l.toNat)) w := by
      simp [Instr.sliceAt, Instr.slice, run_underlying ht, hbounds, sizeOf, typeInfo, hi']
    have hz : h.toNat - l.toNat = 0 := by omega
    rw [hz] at hrun
    refine ⟨.slice (if c = l.toNat then some ⟨b, off, none⟩ else (some (⟨b, off, none⟩ : Addr)).map (·.add (l.toNat * i.size))) 0 (c - l.toNat), ?_, .pure _ _ _ (.empty _ _)⟩
    simp only [execOp, hop, hX]
    simp [hrun]

theorem does_sliceNil {P : Program} [GT P] {nt : Nat} {o : Oper} {d t e : Nat} {x : Operand} {lo hi : Option Operand} {kl kh : IntKind} {l h : Int} {v : AV} {i : TypeInfo}
    (hop : o.op = .slice t x lo hi none) (hdst : o.dst = some d) (hd : d < nt) (ht : P.underlying t = some (.slice e)) (hi' : P.info? e = some i) (hv : v = .nils ∨ v = .nilsl)
    (hx : Opd x v) (hlo : OpdO lo kl l 0) (hhi : OpdO hi kh h 0) (h0 : l = 0) (h1 : h = 0) :
    Does P nt o (rdOf x v ++ (rdO lo kl l ++ rdO hi kh h)) [.s d (some v)] :=
  does_value hdst hd fun Γ S a w R ι ω hrd hrel => by
    obtain ⟨r1, r23⟩ := mem_app hrd
    obtain ⟨r2, r3⟩ := mem_app r23
    have hX := hx.rep hrel r1
    have hform : ∃ ad, a.eval x = .slice ad 0 0 ∧ PRep w R v (.slice ad 0 0) := by
      generalize a.eval x = X at hX
      rcases hv with rfl | rfl
      · cases hX with
        | pure _ _ _ hp => cases hp with
          | nils ad => exact ⟨ad, rfl, .nils ad⟩
      · cases hX with
        | pure _ _ _ hp => cases hp with
          | nilsl => exact ⟨none, rfl, .nilsl⟩
    obtain ⟨ad, hX, hP⟩ := hform
    have vlo := hlo.val hrel r2
    have vhi := hhi.val hrel r3
    subst h0; subst h1
    have hbounds : (Instr.sliceBounds true 0 0 (lo.map a.eval) (hi.map a.eval) none).run P w = .ok (0, 0, 0) w := by
      unfold Instr.sliceBounds
      rcases vlo with ⟨rfl, _⟩ | ⟨y, rfl, hy⟩ <;> rcases vhi with ⟨rfl, _⟩ | ⟨y2, rfl, hy2⟩
      · simp
      · simp [hy2, run_sliceBound (P := P) (w := w) (k := kh) (n := 0) (y := 0) (by omega) (by omega)]
      · simp [hy, run_sliceBound (P := P) (w := w) (k := kl) (n := 0) (y := 0) (by omega) (by omega)]
      · simp [hy, hy2, run_sliceBound (P := P) (w := w) (k := kh) (n := 0) (y := 0) (by omega) (by omega),
          run_sliceBound (P := P) (w := w) (k := kl) (n := 0) (y := 0) (by omega) (by omega)]
    exact ⟨.slice ad 0 0, by simp [execOp, hop, hX, Instr.sliceAt, Instr.slice, run_underlying ht, hbounds, sizeOf, typeInfo, hi'], .pure _ _ _ hP⟩

theorem does_slice00M {P : Program} [GT P] {nt : Nat} {o : Oper} {d t e : Nat} {x : Operand} {lo : Option Operand} {k1 k2 : IntKind} {v r : AV} {i : TypeInfo}
    (hop : o.op = .slice t x lo (some (.const (.int k1 0))) (some (.const (.int k2 0)))) (hlo : lo = none ∨ ∃ k, lo = some (.const (.int k 0))) (hdst : o.dst = some d) (hd : d < nt) (ht : P.underlying t = some (.slice e)) (hi' : P.info? e = some i)
    (hv : (v = .nilsl ∧ r = .nilsl) ∨ (v = .nils ∧ r = .nils) ∨ (∃ q off len sz, v = .msl q off len sz) ∧ r = .nils) (hx : Opd x v) :
    Does P nt o (rdOf x v) [.s d (some r)] :=
  does_value hdst hd fun Γ S a w R ι ω hrd hrel => by
    have hX := hx.rep hrel hrd
    have hform : ∃ ad n c, a.eval x = .slice ad n c ∧ PRep w R r (.slice ad 0 0) := by
      generalize a.eval x = X at hX
      rcases hv with ⟨rfl, rfl⟩ | ⟨rfl, rfl⟩ | ⟨⟨q, off, len, sz, rfl⟩, rfl⟩
      · cases hX with
        | pure _ _ _ hp => cases hp with
          | nilsl => exact ⟨none, 0, 0, rfl, .nilsl⟩
      · cases hX with
        | pure _ _ _ hp => cases hp with
          | nils ad => exact ⟨ad, 0, 0, rfl, .nils ad⟩
      · obtain ⟨b, c, rfl, _⟩ := hX.msl_inv
        exact ⟨_, _, c, rfl, .nils _⟩
    obtain ⟨ad, n, c, hX, hP⟩ := hform
    refine ⟨.slice ad 0 0, ?_, .pure _ _ _ hP⟩
    have h0 : ∀ (k : IntKind) (y : Nat) (code : BoundsCode), (Instr.sliceBound (.int k 0) y code).run P w = .ok 0 w := fun k y code => run_sliceBound (by omega) (by omega)
    have hcst : ∀ v, a.eval (.const v) = v := fun _ => rfl
    rcases hlo with rfl | ⟨k, rfl⟩ <;> simp [execOp, hop, hX, Instr.sliceAt, Instr.slice, Instr.sliceBounds, run_underlying ht, hcst, h0, sizeOf, typeInfo, hi']

/-- Is a slice nil? -/
def nilTest : AV → Option Bool
  | .nilsl => some true
  | .msl _ _ _ _ => some false
  | .list _ (_ :: _) => some false
  | _ => none
theorem does_eqNil {P : Program} [GT P] {nt : Nat} {o : Oper} {d : Nat} {t t' e : TypeId} {x : Operand} {op : BinOp} {u : AV} {b r : Bool}
    (hop : o.op = .binOp op t x (.const (.slice none 0 0)) t') (hr : op = .eql ∧ r = b ∨ op = .neq ∧ r = !b) (hdst : o.dst = some d) (hd : d < nt) (ht : P.underlying t = some (.slice e))
    (h : nilTest u = some b) (hx : Opd x u) : Does P nt o (rdOf x u) [.s d (some (.bool r))] :=
  does_value hdst hd fun Γ S a w R ι ω hrd hrel => by
    have h1 := hx.rep hrel hrd
    generalize hX : a.eval x = X at h1
    have hform : ∃ ad n c, X = .slice ad n c ∧ ad.isNone = b := by
      cases u with
      | nilsl => simp only [nilTest] at h; injection h with h; subst h; cases h1 with | pure p v x h => cases h; exact ⟨_, _, _, rfl, rfl⟩
      | msl q off len sz => simp only [nilTest] at h; injection h with h; subst h; obtain ⟨b, c, rfl, _⟩ := h1.msl_inv; exact ⟨_, _, _, rfl, rfl⟩
      | list own xs =>
        cases xs with
        | nil => cases h
        | cons y ys =>
          simp only [nilTest] at h; injection h with h; subst h
          have hP : PRep w R (.list none (y :: ys)) X := by have := h1.data rfl; exact this
          cases hP with
          | list _ sz b off c val => exact ⟨_, _, _, rfl, rfl⟩
      | _ => cases h
    obtain ⟨ad, n, c, rfl, hb⟩ := hform
    have he : (Op.equal t (.slice ad n c) (.slice none 0 0)).run P w = .ok b w := by
      unfold Op.equal Op.maxDepth Op.equalIn
      cases ad with
      | none => simp [run_underlying ht] at hb ⊢; exact hb
      | some a => simp [run_underlying ht] at hb ⊢; exact hb
    refine ⟨.bool r, ?_, .pure _ _ _ (.bool _)⟩
    have hcst : a.eval (.const (.slice none 0 0)) = .slice none 0 0 := rfl
    rcases hr with ⟨rfl, rfl⟩ | ⟨rfl, rfl⟩
    · simp [execOp, hop, hX, hcst, eqGuard, binOp, he]
    · simp [execOp, hop, hX, hcst, eqGuard, binOp, he]

end Go.Aw
end
section
set_option linter.unusedSimpArgs false
set_option linter.unusedVariables false
namespace Go.Aw
open Go.RowKit
section
variable {Γ : Gam} {g : Nat → Option AV} {m : Nat → Option (List AV)} {a : Act} {w : World} {R : Ext0} {ι : Nat → Option Nat} {ω : Nat → Option (List Nat)}

/-- Nothing is told any more of an object. -/
theorem Rel.kill (h : Rel Γ g m a w R ι ω) {o : Nat} {obj : List AV} (ho : m o = some obj) : Rel Γ g (upd m o (some [])) a w R ι ω := by
  have hlv : ∀ o', lv (upd m o (some [])) o' → lv m o' := by
    intro o' hl
    by_cases he : o' = o
    · subst he; obtain ⟨c, l, hc⟩ := hl; rw [upd_same] at hc; cases hc
    · exact lv_ne he hl
  refine ⟨h.slots, h.nt, h.nodef, ⟨fun o' obj' ho' => ?_, fun o' obj' ho' hne => ?_, fun o1 o2 b l1 l2 => h.mr.inj o1 o2 b (hlv _ l1) (hlv _ l2), fun k p hk o' hl => h.mr.sep k p hk o' (hlv _ hl), h.mr.ilt, h.mr.olt⟩, h.env.mem (fun o' _ hl => hlv _ hl)⟩
  · by_cases he : o' = o
    · subst he; exact h.mr.dom _ _ ho
    · rw [upd_ne _ _ he] at ho'; exact h.mr.dom _ _ ho'
  · by_cases he : o' = o
    · subst he; rw [upd_same] at ho'; injection ho' with ho'; subst ho'; exact absurd rfl hne
    · rw [upd_ne _ _ he] at ho'; exact h.mr.objs _ _ ho' hne

/-- A new object. -/
theorem Rel.newObj (h : Rel Γ g m a w R ι ω) {o : Nat} (hio : ι o = none) {cells : List AV} {arr : Array Value} (e : TypeId)
    (hl : cells.length ≤ arr.size) (hr : ∀ c v, cells[c]? = some v → ∃ x, arr[c]? = some x ∧ Rep w R ι ω [1, o, c] v x) :
    Rel Γ g (upd m o (some cells)) a
      (w.alloc (.cells arr e)) (upd R w.heap.size (some 0)) (upd ι o (some w.heap.size)) ω := by
  have hE := ext_alloc w R arr e (0, 0) 0
  have hI : ∀ o' b, ι o' = some b → upd ι o (some w.heap.size) o' = some b := fun o' b hb => by
    rw [upd_ne]; exact hb
    rintro rfl; rw [hio] at hb; cases hb
  have hO : ∀ k q, ω k = some q → (w.alloc (.cells arr e)).heap[k]? = w.heap[k]? ∧ upd R w.heap.size (some 0) k = R k ∧ ω k = ω k := fun k q hk => by
    have := h.mr.olt k q hk
    exact ⟨heap_alloc_lt _ this, upd_ne _ _ (by omega), rfl⟩
  have lift : ∀ {p v x}, Rep w R ι ω p v x → Rep (w.alloc (.cells arr e)) (upd R w.heap.size (some 0)) (upd ι o (some w.heap.size)) ω p v x :=
    fun hrep => hrep.ext hE hI (fun k q hk _ => hO k q hk)
  refine ⟨?_, ?_, h.nodef, ⟨?_, ?_, ?_, ?_, ?_, ?_⟩, ?_⟩
  · intro e' y hy
    obtain ⟨z, hz, hzr⟩ := h.slots e' y hy
    exact ⟨z, hz, lift hzr⟩
  · exact h.nt
  · intro o' obj ho'
    by_cases he : o' = o
    · subst he; exact ⟨_, upd_same _ _ _⟩
    · rw [upd_ne _ _ he] at ho'
      obtain ⟨b, hb⟩ := h.mr.dom _ _ ho'
      exact ⟨b, hI _ _ hb⟩
  · intro o' obj ho' hne'
    by_cases he : o' = o
    · subst he
      rw [upd_same] at ho'; injection ho' with ho'; subst ho'
      refine ⟨w.heap.size, arr, e, upd_same _ _ _, heap_alloc_new _, hl, upd_same _ _ _, fun c v hv => ?_⟩
      obtain ⟨x, hx, hxr⟩ := hr c v hv
      exact ⟨x, hx, lift hxr⟩
    · rw [upd_ne _ _ he] at ho'
      obtain ⟨b, arr', e', h1, h2, h3, h4, h5⟩ := h.mr.objs o' obj ho' hne'
      have hlt := h.mr.ilt o' b h1
      refine ⟨b, arr', e', hI _ _ h1, (heap_alloc_lt _ hlt).trans h2, h3, (upd_ne _ _ (by omega)).trans h4, fun c v hv => ?_⟩
      obtain ⟨x, hx, hxr⟩ := h5 c v hv
      exact ⟨x, hx, lift hxr⟩
  · intro o1 o2 b l1 l2 h1 h2
    by_cases e1 : o1 = o
    · by_cases e2 : o2 = o
      · rw [e1, e2]
      · rw [e1, upd_same] at h1; rw [upd_ne _ _ e2] at h2
        have := h.mr.ilt _ _ h2; injection h1 with h1; omega
    · rw [upd_ne _ _ e1] at h1
      by_cases e2 : o2 = o
      · rw [e2, upd_same] at h2
        have := h.mr.ilt _ _ h1; injection h2 with h2; omega
      · rw [upd_ne _ _ e2] at h2; exact h.mr.inj _ _ _ (lv_ne e1 l1) (lv_ne e2 l2) h1 h2
  · intro k p hk o' hl'
    by_cases e1 : o' = o
    · rw [e1, upd_same]; have := h.mr.olt _ _ hk; intro hh; injection hh with hh; omega
    · rw [upd_ne _ _ e1]; exact h.mr.sep k p hk o' (lv_ne e1 hl')
  · intro o' b hb
    show _ < (w.heap.push _).size; rw [Array.size_push]
    by_cases e1 : o' = o
    · rw [e1, upd_same] at hb; injection hb with hb; omega
    · rw [upd_ne _ _ e1] at hb; have := h.mr.ilt _ _ hb; omega
  · intro k p hk
    show _ < (w.heap.push _).size; rw [Array.size_push]
    have := h.mr.olt _ _ hk; omega
  · refine h.env.step hE rfl rfl rfl ?_ hI ?_ (fun k p hp => .inl ⟨p, hp⟩)
    · intro b hb _ _
      exact ⟨heap_alloc_lt _ hb, upd_ne _ _ (by omega)⟩
    · intro o' b hl' hb
      by_cases e1 : o' = o
      · rw [e1, upd_same] at hb; injection hb with hb; exact .inr (.inl (by omega))
      · rw [upd_ne _ _ e1] at hb; exact .inl ⟨o', lv_ne e1 hl', hb⟩


/-- A new object in the place of an elder one. -/
theorem Rel.reborn (h : Rel Γ g m a w R ι ω) {o n b : Nat} {obj cells : List AV} {arr' : Array Value} {e : TypeId} {w' : World} (ho : m o = some obj) (hne0 : obj ≠ []) (hb : ι o = some b) (hio : ι n = none) (hR : R b = some 0)
    (hbk : ∀ (arr : Array Value) e fz, w.heap[b]? = some (.cells arr e fz) → arr.size ≤ arr'.size)
    (hw' : w'.heap[b]? = some (.cells arr' e (0, 0))) (hsz : w'.heap.size = w.heap.size) (hoth : ∀ k, k ≠ b → w'.heap[k]? = w.heap[k]?)
    (h1 : w'.os = w.os) (h2 : w'.tape = w.tape) (h3 : w'.output = w.output)
    (hl : cells.length ≤ arr'.size) (hcells : ∀ c v, cells[c]? = some v → ∃ x, arr'[c]? = some x ∧ Rep w R ι ω [1, n, c] v x) :
    Rel Γ g (upd (upd m o (some [])) n (some cells)) a w' R (upd ι n (some b)) ω := by
  have hlo : lv m o := lv_some ho hne0
  have hon : o ≠ n := by rintro rfl; rw [hb] at hio; cases hio
  have hE := ext_obj hR hsz hoth (fun arr e0 fz h0 => ⟨arr', e, (0, 0), hw', hbk arr e0 fz h0⟩)
  have hI : ∀ o' b', ι o' = some b' → upd ι n (some b) o' = some b' := fun o' b' hb' => by
    rw [upd_ne]; exact hb'
    rintro rfl; rw [hio] at hb'; cases hb'
  have hO : ∀ k q, ω k = some q → w'.heap[k]? = w.heap[k]? ∧ R k = R k ∧ ω k = ω k := fun k q hk => by
    refine ⟨hoth k ?_, rfl, rfl⟩
    rintro rfl
    exact h.mr.sep k q hk o hlo hb
  have lift : ∀ {p v x}, Rep w R ι ω p v x → Rep w' R (upd ι n (some b)) ω p v x := fun hrep => hrep.ext hE hI (fun k q hk _ => hO k q hk)
  have hlv : ∀ o', lv (upd (upd m o (some [])) n (some cells)) o' → o' = n ∨ (o' ≠ n ∧ o' ≠ o ∧ lv m o') := by
    intro o' hl'
    by_cases he : o' = n
    · exact .inl he
    · have h' := lv_ne he hl'
      by_cases he2 : o' = o
      · subst he2; obtain ⟨c, l, hc⟩ := h'; rw [upd_same] at hc; cases hc
      · exact .inr ⟨he, he2, lv_ne he2 h'⟩
  refine ⟨fun d v hv => ?_, h.nt, h.nodef, ⟨fun o' obj' ho' => ?_, fun o' obj' ho' hne => ?_, fun o1 o2 b' l1 l2 g1 g2 => ?_, fun k p hk o' hl' hh => ?_, fun o' b' hb' => ?_, fun k p hk => ?_⟩, ?_⟩
  · obtain ⟨x, hx, hr⟩ := h.slots d v hv
    exact ⟨x, hx, lift hr⟩
  · by_cases he : o' = n
    · subst he; exact ⟨_, upd_same _ _ _⟩
    · rw [upd_ne _ _ he] at ho'
      by_cases he2 : o' = o
      · subst he2; exact ⟨b, hI _ _ hb⟩
      · rw [upd_ne _ _ he2] at ho'
        obtain ⟨b', hb'⟩ := h.mr.dom _ _ ho'
        exact ⟨b', hI _ _ hb'⟩
  · by_cases he : o' = n
    · subst he
      rw [upd_same] at ho'; injection ho' with ho'; subst ho'
      refine ⟨b, arr', e, upd_same _ _ _, hw', hl, hR, fun c v hv => ?_⟩
      obtain ⟨x, hx, hr⟩ := hcells c v hv
      exact ⟨x, hx, lift hr⟩
    · rw [upd_ne _ _ he] at ho'
      by_cases he2 : o' = o
      · subst he2; rw [upd_same] at ho'; injection ho' with ho'; subst ho'; exact absurd rfl hne
      · rw [upd_ne _ _ he2] at ho'
        obtain ⟨b1, arr1, e1, k1, k2, k3, k4, k5⟩ := h.mr.objs o' obj' ho' hne
        have hnb : b1 ≠ b := by rintro rfl; exact he2 (h.mr.inj _ _ _ (lv_some ho' hne) hlo k1 hb)
        refine ⟨b1, arr1, e1, hI _ _ k1, (hoth _ hnb).trans k2, k3, k4, fun c v hv => ?_⟩
        obtain ⟨x, hx, hr⟩ := k5 c v hv
        exact ⟨x, hx, lift hr⟩
  · rcases hlv _ l1 with rfl | ⟨e1, e1', m1⟩ <;> rcases hlv _ l2 with rfl | ⟨e2, e2', m2⟩
    · rfl
    · rw [upd_same] at g1; injection g1 with g1; subst g1
      rw [upd_ne _ _ e2] at g2
      exact absurd (h.mr.inj _ _ _ m2 hlo g2 hb) e2'
    · rw [upd_same] at g2; injection g2 with g2; subst g2
      rw [upd_ne _ _ e1] at g1
      exact absurd (h.mr.inj _ _ _ m1 hlo g1 hb) e1'
    · rw [upd_ne _ _ e1] at g1; rw [upd_ne _ _ e2] at g2
      exact h.mr.inj _ _ _ m1 m2 g1 g2
  · rcases hlv _ hl' with rfl | ⟨e1, _, m1⟩
    · rw [upd_same] at hh; injection hh with hh; subst hh
      exact h.mr.sep _ p hk o hlo hb
    · rw [upd_ne _ _ e1] at hh
      exact h.mr.sep k p hk o' m1 hh
  · rw [hsz]
    by_cases he : o' = n
    · subst he; rw [upd_same] at hb'; injection hb' with hb'; subst hb'; exact h.mr.ilt _ _ hb
    · rw [upd_ne _ _ he] at hb'; exact h.mr.ilt _ _ hb'
  · rw [hsz]; exact h.mr.olt k p hk
  · refine h.env.step hE h1 h2 h3 (fun k hk hko _ => ⟨hoth k (fun e => hko o hlo (e ▸ hb)), rfl⟩) hI (fun o' b' hl' hb' => ?_) (fun k p hp => .inl ⟨p, hp⟩)
    rcases hlv _ hl' with rfl | ⟨e1, _, m1⟩
    · rw [upd_same] at hb'; injection hb' with hb'; subst hb'; exact .inl ⟨o, hlo, hb⟩
    · rw [upd_ne _ _ e1] at hb'; exact .inl ⟨o', m1, hb'⟩

end
end Go.Aw
end
section
set_option linter.unusedSimpArgs false
set_option linter.unusedVariables false
namespace Go.Aw
open Go.RowKit

theorem flatten_get {sz : Nat} (h0 : 0 < sz) : ∀ {ys : List (List AV)} {q : Nat} {v : AV}, (∀ (j : Nat) (y : List AV), ys[j]? = some y → y.length = sz) → ys.flatten[q]? = some v → ∃ y, ys[q / sz]? = some y ∧ y[q % sz]? = some v
  | [], q, v, _, h => by simp at h
  | y :: ys, q, v, hs, h => by
    have hy := hs 0 y rfl
    rw [List.flatten_cons] at h
    by_cases hq : q < sz
    · rw [List.getElem?_append_left (by omega)] at h
      exact ⟨y, by rw [Nat.div_eq_of_lt hq]; rfl, by rw [Nat.mod_eq_of_lt hq]; exact h⟩
    · rw [List.getElem?_append_right (by omega), hy] at h
      obtain ⟨z, h1, h2⟩ := flatten_get h0 (fun j y hj => hs (j + 1) y (by simpa using hj)) h
      refine ⟨z, ?_, ?_⟩
      · have : q / sz = (q - sz) / sz + 1 := by rw [← Nat.add_div_right _ h0]; congr 1; omega
        rw [this, List.getElem?_cons_succ]; exact h1
      · rw [Nat.mod_eq_sub_mod (by omega)]; exact h2
theorem flatten_length {sz : Nat} : ∀ {ys : List (List AV)}, (∀ (j : Nat) (y : List AV), ys[j]? = some y → y.length = sz) → ys.flatten.length = ys.length * sz
  | [], _ => by simp
  | y :: ys, hs => by
    rw [List.flatten_cons, List.length_append, hs 0 y rfl, flatten_length (fun j y hj => hs (j + 1) y (by simpa using hj)), List.length_cons, Nat.succ_mul]; omega

/-- What is laid behind, cell by cell. -/
theorem new_cells {w : World} {R : Ext0} {ι : Nat → Option Nat} {ω : Nat → Option (List Nat)} {sz : Nat} (h0 : 0 < sz) {ys : List (List AV)} {news : List Value} {val : Nat → Nat → Value}
    (hsz : ∀ (j : Nat) (y : List AV), ys[j]? = some y → y.length = sz) (hcell : ∀ j i, j < ys.length → i < sz → news[j * sz + i]? = some (val j i))
    (hval : ∀ (j : Nat) (y : List AV), ys[j]? = some y → ∀ (i : Nat) (v : AV), y[i]? = some v → PRep w R v (val j i)) {q : Nat} {v : AV} (h : ys.flatten[q]? = some v) :
    ∃ x, news[q]? = some x ∧ ∀ p, Rep w R ι ω p v x := by
  obtain ⟨y, h1, h2⟩ := flatten_get h0 hsz h
  have hj := (List.getElem?_eq_some_iff.1 h1).1
  have hc := hcell (q / sz) (q % sz) hj (Nat.mod_lt _ h0)
  rw [Nat.div_add_mod'] at hc
  exact ⟨_, hc, fun p => .pure _ _ _ (hval _ y h1 _ v h2)⟩

theorem does_appendM {P : Program} [GT P] {nt : Nat} {o : Oper} {d s t tx e q len N : Nat} {x : Operand} {u : AV} {obj : List AV} {ys : List (List AV)} {i : TypeInfo} {z : Value}
    (hop : o.op = .call { callee := .builtin .append, args := #[.tmp s, x], argTypes := #[t, tx] }) (hdst : o.dst = some d) (hd : d < nt)
    (ht : P.underlying t = some (.slice e)) (hi : P.info? e = some i) (hz : i.zero = some z) (hzs : z.cells.size = i.size) (h0 : 0 < i.size)
    (hx : Opd x u) (hu : SrcAV u ys)
    (hk : ((∃ e', P.underlying tx = some (.slice e')) ∧ ∀ s, u ≠ .str s) ∨ (P.underlying tx = some .string ∧ i.size = 1 ∧ ∃ s, u = .str s))
    (hsz : ∀ (j : Nat) (y : List AV), ys[j]? = some y → y.length = i.size) (hne : obj ≠ []) (hlen : len * i.size ≤ obj.length) (hy0 : 0 < ys.length)
    (hb : (len + ys.length) * i.bytes ≤ 140737488355328) (h63 : len + ys.length ≤ 9223372036854775807) :
    Does P nt o ([.s s (.msl q 0 len i.size)] ++ rdOf x u ++ [.o q obj, .new N])
      [.o q [], .o N (AV.roL (obj.take (len * i.size)) ++ ys.flatten), .s d (some (.msl N 0 (len + ys.length) i.size))] := by
  intro Γ S a w next Q hnt hr hrel hn
  have hntn := hnt.1
  obtain ⟨R, ι, ω, hrel, hdom⟩ := hrel
  obtain ⟨r12, r3⟩ := mem_app hr
  obtain ⟨r1, r2⟩ := mem_app r12
  have hs : S.g s = some (.msl q 0 len i.size) := r1 (.s s _) (by simp)
  have hm : S.m q = some obj := r3 (.o q obj) (by simp)
  have hN : S.m N = none := r3 (.new N) (by simp)
  have hιN : ι N = none := fresh_iota hdom hN
  obtain ⟨X, hX, hXr⟩ := hrel.slots s _ hs
  have haX : a.eval (.tmp s) = X := by simp [Act.eval, hX]
  obtain ⟨b, c, rfl, hιb, hlc, arr1, e1, fz1, hh1, hcap1⟩ := hXr.msl_inv
  obtain ⟨arr, el, k1, k2, k3, k4⟩ := RelV.obj hrel hm hne hιb
  have harr : arr1 = arr := by rw [hh1] at k1; injection k1 with k1; injection k1
  subst harr
  obtain ⟨news, val, hsrc, hcell, hval⟩ := src_of (P := P) (hx.rep hrel r2) hu hsz h0 hk
  have hnl := hsrc.newsLen
  have hfl := flatten_length hsz
  have hrl : (AV.roL (obj.take (len * i.size))).length = len * i.size := by rw [roL_length, List.length_take]; omega
  have hqN : q ≠ N := by rintro rfl; rw [hm] at hN; cases hN
  have hcells : ∀ (arr' : Array Value) (ω' : Nat → Option (List Nat)), (∀ (c' : Nat), c' < len * i.size → arr'[c']? = arr1[c']?) → (∀ (j : Nat), j < news.length → arr'[len * i.size + j]? = news[j]?) →
      ∀ (c' : Nat) (v : AV), (AV.roL (obj.take (len * i.size)) ++ ys.flatten)[c']? = some v → ∃ x, arr'[c']? = some x ∧ ∀ p, Rep w R ι ω' p v x := by
    intro arr' ω' ha1 ha2 c' v hv
    by_cases hc : c' < len * i.size
    · rw [List.getElem?_append_left (by omega)] at hv
      obtain ⟨u', hu', rfl⟩ := roL_get hv
      rw [List.getElem?_take_of_lt hc] at hu'
      obtain ⟨y, hy, hyr⟩ := k4 c' u' hu'
      exact ⟨y, (ha1 c' hc).trans hy, fun p => hyr.ro _ _⟩
    · rw [List.getElem?_append_right (by omega), hrl] at hv
      have hlt := (List.getElem?_eq_some_iff.1 hv).1
      obtain ⟨x, hx1, hx2⟩ := new_cells (ι := ι) (ω := ω') h0 hsz hcell hval hv
      refine ⟨x, ?_, hx2⟩
      have := ha2 (c' - len * i.size) (by rw [hnl, ← hfl]; exact hlt)
      rw [show len * i.size + (c' - len * i.size) = c' from by omega] at this
      exact this.trans hx1
  have hview : S.puts [.o q [], .o N (AV.roL (obj.take (len * i.size)) ++ ys.flatten), .s d (some (.msl N 0 (len + ys.length) i.size))] =
      ⟨upd S.g d (some (.msl N 0 (len + ys.length) i.size)), upd (upd S.m q (some [])) N (some (AV.roL (obj.take (len * i.size)) ++ ys.flatten))⟩ := rfl
  have hdom' : ∀ b', ∀ n' b'', upd ι N (some b') n' = some b'' → ∃ ob, upd (upd S.m q (some [])) N (some (AV.roL (obj.take (len * i.size)) ++ ys.flatten)) n' = some ob := by
    intro b' n' b'' hh
    by_cases h1 : n' = N
    · subst h1; exact ⟨_, upd_same _ _ _⟩
    · rw [upd_ne _ _ h1] at hh ⊢
      by_cases h2 : n' = q
      · subst h2; exact ⟨_, upd_same _ _ _⟩
      · rw [upd_ne _ _ h2]; exact hdom n' b'' hh
  have hmul : (len + ys.length) * i.size = len * i.size + ys.length * i.size := Nat.add_mul _ _ _
  by_cases hroom : len + ys.length ≤ c
  · have hcz : (len + ys.length) * i.size ≤ c * i.size := Nat.mul_le_mul_right _ hroom
    have hrun := run_append_room_src (P := P) w t tx o.type e i ht hi b 0 len c (a.eval x) ys.length news hsrc hroom
      (fun j hj => by rw [cell_of_heap k1, Array.getElem?_eq_getElem (by omega)]; rfl) (fun j hj => by simp [World.frozen?, k1])
    simp only [Nat.zero_add] at hrun hcap1
    obtain ⟨g1, g2, g3, g4, g5⟩ := setCells_same news b (len * i.size) w
    obtain ⟨arr', p1, p2, p3⟩ := heap_setCells_at news (len * i.size) arr1 w k1 (by omega)
    refine wp_value (x := .slice (some ⟨b, 0, none⟩) (len + ys.length) c) (w' := w.setCells b (len * i.size) news) ?_ (hn _ _ ?_)
    · simp [execOp, hop, resolve, invoke, builtin, haX]
      simp [hrun]
    · rw [hdst, hview]
      have hr2 := hrel.reborn (n := N) (cells := AV.roL (obj.take (len * i.size)) ++ ys.flatten) hm hne hιb hιN k3
        (fun arr0 e0 fz0 h0' => by rw [k1] at h0'; injection h0' with h0'; injection h0' with h0'; subst h0'; omega) p1 g1 g5 g2 g3 g4
        (by rw [List.length_append, hrl, hfl]; omega)
        (fun c' v hv => by
          obtain ⟨x, hx1, hx2⟩ := hcells arr' ω (fun c' hc' => by rw [p3, if_pos hc']) (fun j hj => by rw [p3, if_neg (by omega), if_pos (by omega)]; congr 1; omega) c' v hv
          exact ⟨x, hx1, hx2 _⟩)
      exact ⟨R, _, ω, hr2.set (by omega) (.msl _ N 0 _ _ b c (upd_same _ _ _) hroom ⟨arr', el, (0, 0), p1, by omega⟩), hdom' b⟩
  · have hgr : c < len + ys.length := by omega
    have hge := grownCap_ge w (len + ys.length) c e
    have holds : (Builtin.firstCells i.size len (.slice (some ⟨b, 0, none⟩) len c)).run P w.drew = .ok (arr1.toList.take (len * i.size)).toArray w.drew := by
      refine run_firstCells_some (P := P) w.drew i.size len _ len c _ (by simp; omega) (fun q' u' hq => ?_)
      have hq2 : q' < len * i.size := by have := (List.getElem?_eq_some_iff.1 hq).1; rw [List.length_take] at this; omega
      rw [List.getElem?_take_of_lt hq2] at hq
      rw [Addr.add_lit]
      have : w.drew.cell? ⟨b, 0 + q', none⟩ = w.cell? ⟨b, 0 + q', none⟩ := rfl
      rw [this, cell_of_heap k1, Nat.zero_add]
      simpa using hq
    have hrun := run_append_grow_src (P := P) w t tx o.type e i z ht hi hz (some ⟨b, 0, none⟩) len c (arr1.toList.take (len * i.size)) holds (a.eval x) ys.length news hsrc hgr (by omega) (growslice_fits hgr hb)
    have hol : (arr1.toList.take (len * i.size)).length = len * i.size := by simp; omega
    refine wp_value (w' := w.drew.alloc (.cells ((arr1.toList.take (len * i.size) ++ news).toArray ++ Builtin.zeroCells z.cells (grownCap w (len + ys.length) c e - (len + ys.length))) e))
      (x := .slice (some ⟨w.heap.size, 0, none⟩) (len + ys.length) (grownCap w (len + ys.length) c e)) ?_ (hn _ _ ?_)
    · simp [execOp, hop, resolve, invoke, builtin, haX]
      simp [hrun]
    · rw [hdst, hview]
      have hsize : ((arr1.toList.take (len * i.size) ++ news).toArray ++ Builtin.zeroCells z.cells (grownCap w (len + ys.length) c e - (len + ys.length))).size = grownCap w (len + ys.length) c e * i.size := by
        rw [Array.size_append, size_zeroCells, hzs]
        simp only [List.size_toArray, List.length_append, hol, hnl]
        rw [← Nat.add_mul, ← Nat.add_mul]
        congr 1; omega
      have hlt : (len + ys.length) * i.size ≤ grownCap w (len + ys.length) c e * i.size := Nat.mul_le_mul_right _ hge
      have h1 := (hrel.drew.kill (o := q) hm)
      have hr2 := h1.newObj (o := N) hιN (cells := AV.roL (obj.take (len * i.size)) ++ ys.flatten) (arr := (arr1.toList.take (len * i.size) ++ news).toArray ++ Builtin.zeroCells z.cells (grownCap w (len + ys.length) c e - (len + ys.length))) e
        (by rw [List.length_append, hrl, hfl, hsize]; omega)
        (fun c' v hv => by
          have hcl : c' < len * i.size + ys.length * i.size := by have := (List.getElem?_eq_some_iff.1 hv).1; rw [List.length_append, hrl, hfl] at this; exact this
          obtain ⟨x, hx1, hx2⟩ := hcells ((arr1.toList.take (len * i.size) ++ news).toArray ++ Builtin.zeroCells z.cells (grownCap w (len + ys.length) c e - (len + ys.length))) ω
            (fun c' hc' => by rw [Array.getElem?_append_left (by simp; omega), List.getElem?_toArray, List.getElem?_append_left (by omega), List.getElem?_take_of_lt hc']; simp)
            (fun j hj => by rw [Array.getElem?_append_left (by simp; omega), List.getElem?_toArray, List.getElem?_append_right (by omega)]; congr 1; omega) c' v hv
          refine ⟨x, hx1, ?_⟩
          have hE : Ext w R w.drew R := ⟨Nat.le_refl _, fun _ _ _ h hs => ⟨h, hs⟩, fun _ arr e fz h => ⟨arr, e, fz, h, Nat.le_refl _⟩⟩
          exact (hx2 _).ext hE (fun _ _ h => h) (fun _ _ _ _ => ⟨rfl, rfl, rfl⟩))
      exact ⟨_, _, ω, hr2.set (by omega) (.msl _ N 0 _ _ w.heap.size _ (upd_same _ _ _) hge ⟨_, e, (0, 0), heap_alloc_new _, by rw [hsize]; omega⟩), hdom' _⟩

end Go.Aw
end
section
set_option linter.unusedSimpArgs false
set_option linter.unusedVariables false
namespace Go.Aw
open Go.RowKit

/-- An append to nothing: a new object. -/
theorem does_appendN {P : Program} [GT P] {nt : Nat} {o : Oper} {d s t tx e N : Nat} {x : Operand} {v u : AV} {ys : List (List AV)} {i : TypeInfo} {z : Value}
    (hop : o.op = .call { callee := .builtin .append, args := #[.tmp s, x], argTypes := #[t, tx] }) (hdst : o.dst = some d) (hd : d < nt)
    (ht : P.underlying t = some (.slice e)) (hi : P.info? e = some i) (hz : i.zero = some z) (hzs : z.cells.size = i.size) (h0 : 0 < i.size)
    (hv : v = .nils ∨ v = .nilsl) (hx : Opd x u) (hu : SrcAV u ys)
    (hk : ((∃ e', P.underlying tx = some (.slice e')) ∧ ∀ s, u ≠ .str s) ∨ (P.underlying tx = some .string ∧ i.size = 1 ∧ ∃ s, u = .str s))
    (hsz : ∀ (j : Nat) (y : List AV), ys[j]? = some y → y.length = i.size) (hy0 : 0 < ys.length)
    (hb : (0 + ys.length) * i.bytes ≤ 140737488355328) (h63 : ys.length ≤ 9223372036854775807) :
    Does P nt o ([.s s v] ++ rdOf x u ++ [.new N]) [.o N ys.flatten, .s d (some (.msl N 0 ys.length i.size))] := by
  intro Γ S a w next Q hnt hr hrel hn
  have hntn := hnt.1
  obtain ⟨R, ι, ω, hrel, hdom⟩ := hrel
  obtain ⟨r12, r3⟩ := mem_app hr
  obtain ⟨r1, r2⟩ := mem_app r12
  have hs : S.g s = some v := r1 (.s s _) (by simp)
  have hN : S.m N = none := r3 (.new N) (by simp)
  have hιN : ι N = none := fresh_iota hdom hN
  obtain ⟨X, hX, hXr⟩ := hrel.slots s _ hs
  have haX : a.eval (.tmp s) = X := by simp [Act.eval, hX]
  have hform : ∃ base, X = .slice base 0 0 := by
    rcases hv with rfl | rfl
    · cases hXr with | pure p v x h => cases h; exact ⟨_, rfl⟩
    · cases hXr with | pure p v x h => cases h; exact ⟨_, rfl⟩
  obtain ⟨base, rfl⟩ := hform
  obtain ⟨news, val, hsrc, hcell, hval⟩ := src_of (P := P) (hx.rep hrel r2) hu hsz h0 hk
  have hnl := hsrc.newsLen
  have hfl := flatten_length hsz
  have hgr : 0 < 0 + ys.length := by omega
  have hge := grownCap_ge w (0 + ys.length) 0 e
  have holds : (Builtin.firstCells i.size 0 (.slice base 0 0)).run P w.drew = .ok ([] : List Value).toArray w.drew := by
    cases base with
    | none => simp [Builtin.firstCells]
    | some b => simp [Builtin.firstCells, loadCells, loadCellsFrom]
  have hrun := run_append_grow_src (P := P) w t tx o.type e i z ht hi hz base 0 0 [] holds (a.eval x) ys.length news hsrc hgr (by omega) (growslice_fits hgr hb)
  simp only [List.nil_append, Nat.zero_add] at hrun hge
  refine wp_value (w' := w.drew.alloc (.cells (news.toArray ++ Builtin.zeroCells z.cells (grownCap w ys.length 0 e - ys.length)) e))
      (x := .slice (some ⟨w.heap.size, 0, none⟩) ys.length (grownCap w ys.length 0 e)) ?_ (hn _ _ ?_)
  · simp [execOp, hop, resolve, invoke, builtin, haX]
    simp [hrun]
  · rw [hdst]
    have hsize : (news.toArray ++ Builtin.zeroCells z.cells (grownCap w ys.length 0 e - ys.length)).size = grownCap w ys.length 0 e * i.size := by
      rw [Array.size_append, size_zeroCells, hzs]
      simp only [List.size_toArray, hnl]
      rw [← Nat.add_mul]
      congr 1; omega
    have hlt : ys.length * i.size ≤ grownCap w ys.length 0 e * i.size := Nat.mul_le_mul_right _ hge
    have hr2 := hrel.drew.newObj (o := N) hιN (cells := ys.flatten) (arr := news.toArray ++ Builtin.zeroCells z.cells (grownCap w ys.length 0 e - ys.length)) e (by rw [hfl, hsize]; exact hlt)
      (fun c' v hv => by
        have hcl : c' < news.length := by have := (List.getElem?_eq_some_iff.1 hv).1; rw [hfl] at this; omega
        obtain ⟨x, hx1, hx2⟩ := new_cells (ι := ι) (ω := ω) h0 hsz hcell hval hv
        refine ⟨x, by rw [Array.getElem?_append_left (by simpa using hcl), List.getElem?_toArray]; exact hx1, ?_⟩
        have hE : Ext w R w.drew R := ⟨Nat.le_refl _, fun _ _ _ h hs => ⟨h, hs⟩, fun _ arr e fz h => ⟨arr, e, fz, h, Nat.le_refl _⟩⟩
        exact (hx2 _).ext hE (fun _ _ h => h) (fun _ _ _ _ => ⟨rfl, rfl, rfl⟩))
    refine ⟨_, _, ω, hr2.set (by omega) (.msl _ N 0 _ _ w.heap.size _ (upd_same _ _ _) hge ⟨_, e, (0, 0), heap_alloc_new _, by rw [hsize]; omega⟩), ?_⟩
    intro n' b'' hh
    by_cases h1 : n' = N
    · subst h1; exact ⟨_, upd_same _ _ _⟩
    · rw [upd_ne _ _ h1] at hh
      obtain ⟨ob, hob⟩ := hdom n' b'' hh
      exact ⟨ob, (upd_ne _ _ h1).trans hob⟩

/-- Nothing to nothing. -/
theorem does_append00 {P : Program} [GT P] {nt : Nat} {o : Oper} {d s t tx e : Nat} {x : Operand} {v u : AV} {i : TypeInfo}
    (hop : o.op = .call { callee := .builtin .append, args := #[.tmp s, x], argTypes := #[t, tx] }) (hdst : o.dst = some d) (hd : d < nt)
    (ht : P.underlying t = some (.slice e)) (hi : P.info? e = some i) (h0 : 0 < i.size)
    (hv : v = .nils ∨ v = .nilsl) (hx : Opd x u) (hu : SrcAV u [])
    (hk : ((∃ e', P.underlying tx = some (.slice e')) ∧ ∀ s, u ≠ .str s) ∨ (P.underlying tx = some .string ∧ i.size = 1 ∧ ∃ s, u = .str s)) :
    Does P nt o ([.s s v] ++ rdOf x u) [.s d (some .nils)] :=
  does_value hdst hd fun Γ S a w R ι ω hr hrel => by
    obtain ⟨r1, r2⟩ := mem_app hr
    have hs : S.g s = some v := r1 (.s s _) (by simp)
    obtain ⟨X, hX, hXr⟩ := hrel.slots s _ hs
    have haX : a.eval (.tmp s) = X := by simp [Act.eval, hX]
    have hform : ∃ base, X = .slice base 0 0 := by
      rcases hv with rfl | rfl
      · cases hXr with | pure p v x h => cases h; exact ⟨_, rfl⟩
      · cases hXr with | pure p v x h => cases h; exact ⟨_, rfl⟩
    obtain ⟨base, rfl⟩ := hform
    obtain ⟨news, val, hsrc, hcell, hval⟩ := src_of (P := P) (hx.rep hrel r2) hu (fun j y h => by simp at h) h0 hk
    have hnews : news = [] := List.length_eq_zero_iff.1 (by have := hsrc.newsLen; simpa using this)
    subst hnews
    have hrun : (Builtin.append_ #[t, tx] o.type #[.slice base 0 0, a.eval x]).run P w = .ok (.slice base 0 0) w := by
      have hkind := hsrc.kind
      have hl := hsrc.len
      have hc := hsrc.cells
      rcases hkind with ⟨e', hk⟩ | hk <;> cases base <;> simp [Builtin.append_, run_underlying ht, run_underlying hk, sizeOf, typeInfo, hi] at hl hc ⊢ <;> simp [hl, hc, storeCells]
    refine ⟨.slice base 0 0, ?_, .pure _ _ _ (.nils _)⟩
    simp [execOp, hop, resolve, invoke, builtin, haX]
    simp [hrun]

end Go.Aw
end
